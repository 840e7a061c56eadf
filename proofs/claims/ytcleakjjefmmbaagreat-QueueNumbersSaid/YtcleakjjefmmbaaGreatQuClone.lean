/- queue: clone. -/
import Derived.Test.YtcleakjjefmmbaaGreatK43
import Derived.Test.YtcleakjjefmmbaaGreatEnGet
namespace Go.Proofs.YtcleakjjefmmbaaGreat
open Go.RowKit
namespace Que
open Env (JobP StP TgP JobAt JobOwn tgC stC jobA jobM tgok stok tgC_len stC_len rowS_own)
open Frm (ownsRow_mods ownsRow_keeps ownsRow_base ownsRow_form)
open Oct (u8ok)
theorem cells_tg (l : List TgP) : ∀ u ∈ l.flatMap tgC, u.oneCell' = true := by
 intro u hu
 obtain ⟨x, -, hx⟩ := List.mem_flatMap.1 hu
 simp only [tgC, List.mem_cons, List.not_mem_nil, or_false] at hx
 rcases hx with rfl | rfl | rfl <;> rfl
theorem cells_st (l : List StP) : ∀ u ∈ l.flatMap stC, u.oneCell' = true := by
 intro u hu
 obtain ⟨x, -, hx⟩ := List.mem_flatMap.1 hu
 simp only [stC, List.mem_cons, List.not_mem_nil, or_false] at hx
 rcases hx with rfl | rfl | rfl | rfl <;> rfl
def CloneS (W : World) (C n : Nat) (e : TypeId) (l : List Value) (x : Ending) (w' : World) : Prop := ∃ v, x = .returned v ∧ w'.ownsRow W.heap.size e C v n l ∧ Keeps W w'
set_option maxRecDepth 100000 in
theorem cloneT_any (w : World) (v : Value) (l : List TgP) (hr : RowS w 3 v l.length (l.flatMap tgC)) (hl : l.length ≤ 1000000) : Calls Tryz.prog 115 #[v] w (CloneS w 3 l.length 75 (l.flatMap tgC)) := by
 obtain ⟨p, cap, rfl, -, -⟩ := hr.form
 have hnil : ∀ W, (binOp .eql 51 (.slice p l.length cap) (.slice none 0 0)).run Tryz.prog W = .ok (.bool p.isNone) W := fun W => Lib.run_eql_slice_nil W _ _ _ _ _ _ _ Tryz.underlying51
 cases p with
 |none =>
  have hl0 : l = [] := by
   rcases hr.2 with ⟨a0, cap, h1, h2, -, -⟩ | ⟨b, off, cap, h1, -⟩
   ·exact List.eq_nil_of_length_eq_zero h2
   ·simp at h1
  subst hl0
  simp only [Option.isNone, List.length_nil] at hnil
  clear hr
  go_enter Tryz.func115, Tryz.ntmps115
  go_wp2_with fail
  go_ret
  exact ⟨_, rfl, World.ownsRow_nil _ _ _ _, Keeps.refl _⟩
 |some a =>
  simp only [Option.isNone] at hnil
  have HZ0 := Lib.hid (show (w.alloc (.cells #[] 75)).ownsRow w.heap.size 75 3 (.slice (some ⟨w.heap.size, 0, none⟩) 0 0) 0 [] from ⟨by simp, .inr ⟨w.heap.size, 0, #[], rfl, Nat.le_refl _, Blk.new _ _ _ rfl, Nat.le_refl _, by decide, by simp, by simp⟩⟩)
  have HZ1 := Lib.hid (show RowS (w.alloc (.cells #[] 75)) 3 (.slice (some a) l.length cap) l.length (l.flatMap tgC) from hr.keeps ((Keeps.refl _).alloc _))
  have HWA := Lib.hid (show w.heap.size ≤ (w.alloc (.cells #[] 75)).heap.size from ((Keeps.refl w).alloc (.cells #[] 75)).size)
  clear hr
  go_enter Tryz.func115, Tryz.ntmps115
  go_wp2_with (at_builtin; refine wpList_apps (base := w.heap.size) tgok (by decide) rfl _ _ rfl (.slice (some ⟨w.heap.size, 0, none⟩) 0 0) (.slice (some a) l.length cap) 0 l.length [] (l.flatMap tgC) rfl rfl HZ0.out HZ1.out (cells_tg _) (by omega) (by decide) HWA.out ?_; intro v5 w5 ho5 hg5 hf5; rw [List.nil_append, Nat.zero_add] at ho5; have HO5 := Lib.hid ho5; have HK5 := Lib.hid (show Keeps w w5 from ((Keeps.refl _).alloc _).grown hg5 (fun x hx => by simp [Value.ownBlock] at hx; omega)); clear ho5 hg5 hf5)
  go_ret
  exact ⟨_, rfl, HO5.out, HK5.out⟩
set_option maxRecDepth 100000 in
theorem cloneS_any (w : World) (v : Value) (l : List StP) (hr : RowS w 4 v l.length (l.flatMap stC)) (hl : l.length ≤ 1000000) : Calls Tryz.prog 116 #[v] w (CloneS w 4 l.length 57 (l.flatMap stC)) := by
 obtain ⟨p, cap, rfl, -, -⟩ := hr.form
 have hnil : ∀ W, (binOp .eql 52 (.slice p l.length cap) (.slice none 0 0)).run Tryz.prog W = .ok (.bool p.isNone) W := fun W => Lib.run_eql_slice_nil W _ _ _ _ _ _ _ Tryz.underlying52
 cases p with
 |none =>
  have hl0 : l = [] := by
   rcases hr.2 with ⟨a0, cap, h1, h2, -, -⟩ | ⟨b, off, cap, h1, -⟩
   ·exact List.eq_nil_of_length_eq_zero h2
   ·simp at h1
  subst hl0
  simp only [Option.isNone, List.length_nil] at hnil
  clear hr
  go_enter Tryz.func116, Tryz.ntmps116
  go_wp2_with fail
  go_ret
  exact ⟨_, rfl, World.ownsRow_nil _ _ _ _, Keeps.refl _⟩
 |some a =>
  simp only [Option.isNone] at hnil
  have HZ0 := Lib.hid (show (w.alloc (.cells #[] 57)).ownsRow w.heap.size 57 4 (.slice (some ⟨w.heap.size, 0, none⟩) 0 0) 0 [] from ⟨by simp, .inr ⟨w.heap.size, 0, #[], rfl, Nat.le_refl _, Blk.new _ _ _ rfl, Nat.le_refl _, by decide, by simp, by simp⟩⟩)
  have HZ1 := Lib.hid (show RowS (w.alloc (.cells #[] 57)) 4 (.slice (some a) l.length cap) l.length (l.flatMap stC) from hr.keeps ((Keeps.refl _).alloc _))
  have HWA := Lib.hid (show w.heap.size ≤ (w.alloc (.cells #[] 57)).heap.size from ((Keeps.refl w).alloc (.cells #[] 57)).size)
  clear hr
  go_enter Tryz.func116, Tryz.ntmps116
  go_wp2_with (at_builtin; refine wpList_apps (base := w.heap.size) stok (by decide) rfl _ _ rfl (.slice (some ⟨w.heap.size, 0, none⟩) 0 0) (.slice (some a) l.length cap) 0 l.length [] (l.flatMap stC) rfl rfl HZ0.out HZ1.out (cells_st _) (by omega) (by decide) HWA.out ?_; intro v5 w5 ho5 hg5 hf5; rw [List.nil_append, Nat.zero_add] at ho5; have HO5 := Lib.hid ho5; have HK5 := Lib.hid (show Keeps w w5 from ((Keeps.refl _).alloc _).grown hg5 (fun x hx => by simp [Value.ownBlock] at hx; omega)); clear ho5 hg5 hf5)
  go_ret
  exact ⟨_, rfl, HO5.out, HK5.out⟩
set_option maxRecDepth 100000 in
theorem cloneB_any (w : World) (v : Value) (l : List UInt8) (hr : Row w v (l.map u8v)) (hl : l.length ≤ 1000000) : Calls Tryz.prog 117 #[v] w (fun e w' => ∃ v, e = .returned v ∧ Own w' w.heap.size 5 v (l.map u8v) ∧ Keeps w w') := by
 obtain ⟨p, cap, rfl, hc1, hc2⟩ := hr.formB
 have HR := Lib.hid hr
 clear hr
 have en := fun (w : World) (a : Option Addr) (n c : Nat) => Lib.run_eql_slice_nil (P := Tryz.prog) w 53 5 a n c 0 0 Tryz.underlying53
 cases p with
 |none =>
  have HE := Lib.hid (show l = [] from by
   rcases HR.out with ⟨a0, cap', -, hl0, -, -⟩ | ⟨b, off, cap', hv, -⟩
   ·simpa using hl0
   ·simp at hv)
  go_enter Tryz.func117, Tryz.ntmps117
  go_wp2
  go_ret
  rw [HE.out]
  exact ⟨_, rfl, Own.nil _ _ _, Keeps.refl _⟩
 |some ad =>
  go_enter Tryz.func117, Tryz.ntmps117
  go_wp2_with (at_builtin; refine wpList_app1 (base := w.heap.size) u8ok rfl _ _ rfl (.slice (some ⟨w.heap.size, 0, none⟩) 0 0) _ [] (l.map u8v) rfl rfl (Own.empty w.heap.size rfl (Nat.le_refl _)) (HR.out.keeps ((Keeps.refl _).alloc _)) (oneCell_map_u8 _) (by simp; omega) (by omega) (by simp) ?_; intro v' w2 ho2 hg2 hf2)
  go_ret
  exact ⟨_, rfl, by simpa using ho2, ((Keeps.refl _).alloc _).grown hg2 (by intro k hk; simp [Value.ownBlock] at hk; omega)⟩
/-- a clone's rows so far, beside the variable at g -/
structure ClX (w X : World) (g r : Nat) (j : JobP) (vt vs vb : Value) (A : Array Value) : Prop where
 blk : Blk X g 55 A
 res : Blk X r 55 #[.int .i64 0, .int .i64 0, .string ⟨#[]⟩, .string ⟨#[]⟩, .slice none 0 0, .slice none 0 0, .slice none 0 0]
 job : JobAt X j vt vs vb
 keep : Keeps w X
def JOwnT (X : World) (b : Nat) (j : JobP) (ut : Value) : Prop := X.ownsRow b 75 3 ut j.tos.length (j.tos.flatMap tgC)
def JOwnS (X : World) (b : Nat) (j : JobP) (us : Value) : Prop := X.ownsRow b 57 4 us j.st.length (j.st.flatMap stC)
def JOwnB (X : World) (b : Nat) (j : JobP) (ub : Value) : Prop := Own X b 5 ub (j.body.map u8v)
section
variable {w X Y : World} {g r b : Nat} {j : JobP} {vt vs vb ut us ub : Value} {A : Array Value}
theorem ClX.keeps (h : ClX w X g r j vt vs vb A) (k : Keeps X Y) : ClX w Y g r j vt vs vb A := ⟨h.blk.keeps k, h.res.keeps k, h.job.keeps k, h.keep.trans k⟩
theorem JOwnT.keeps (h : JOwnT X b j ut) (k : Keeps X Y) : JOwnT Y b j ut := ownsRow_keeps h k
theorem JOwnS.keeps (h : JOwnS X b j us) (k : Keeps X Y) : JOwnS Y b j us := ownsRow_keeps h k
theorem JOwnB.keeps (h : JOwnB X b j ub) (k : Keeps X Y) : JOwnB Y b j ub := Own.keeps h k
theorem JOwnT.set (h : JOwnT X b j ut) {t : TypeId} {C : Array Value} (hb : Blk X g t C) (ht : 75 ≠ t) {o : Nat} (u : Value) : JOwnT (X.setCell ⟨g, o, none⟩ u) b j ut :=
 ownsRow_mods h ((Mods.refl (· = g) X).setCell (p := ⟨g, o, none⟩) (fun _ => rfl) u) (fun x hx e => Frm.ownsRow_ne h hb ht (by rw [hx, e]))
theorem JOwnS.set (h : JOwnS X b j us) {t : TypeId} {C : Array Value} (hb : Blk X g t C) (ht : 57 ≠ t) {o : Nat} (u : Value) : JOwnS (X.setCell ⟨g, o, none⟩ u) b j us :=
 ownsRow_mods h ((Mods.refl (· = g) X).setCell (p := ⟨g, o, none⟩) (fun _ => rfl) u) (fun x hx e => Frm.ownsRow_ne h hb ht (by rw [hx, e]))
theorem JOwnB.set (h : JOwnB X b j ub) {t : TypeId} {C : Array Value} (hb : Blk X g t C) (ht : 5 ≠ t) {o : Nat} (u : Value) : JOwnB (X.setCell ⟨g, o, none⟩ u) b j ub :=
 ownsRow_mods h ((Mods.refl (· = g) X).setCell (p := ⟨g, o, none⟩) (fun _ => rfl) u) (fun x hx e => Frm.ownsRow_ne h hb ht (by rw [hx, e]))
/-- the variable is written -/
structure ClY (w X : World) (g r : Nat) (A : Array Value) : Prop where
 blk : Blk X g 55 A
 res : Blk X r 55 #[.int .i64 0, .int .i64 0, .string ⟨#[]⟩, .string ⟨#[]⟩, .slice none 0 0, .slice none 0 0, .slice none 0 0]
 keep : Keeps w X
theorem ClX.y (h : ClX w X g r j vt vs vb A) : ClY w X g r A := ⟨h.blk, h.res, h.keep⟩
theorem ClY.set (h : ClY w X g r A) (hr : g ≠ r) (hg : w.heap.size ≤ g) (o : Nat) (u : Value) : ClY w (X.setCell ⟨g, o, none⟩ u) g r (A.setIfInBounds o u) :=
 ⟨h.blk.set_ o u, h.res.far (p := ⟨g, o, none⟩) (fun e => hr e.symm) u, ((Mods.refl (· = g) X).setCell (p := ⟨g, o, none⟩) (fun _ => rfl) u).keeps h.keep (fun x hx => by rw [hx]; exact hg)⟩
/-- all three rows are cloned -/
structure ClZ (w X : World) (g r : Nat) (j : JobP) (ut us ub : Value) (A : Array Value) : Prop where
 y : ClY w X g r A
 t : JOwnT X g j ut
 s : JOwnS X g j us
 b : JOwnB X g j ub
theorem ClZ.set (h : ClZ w X g r j ut us ub A) (hg : w.heap.size ≤ g ∧ g ≠ r) (o : Nat) (u : Value) : ClZ w (X.setCell ⟨g, o, none⟩ u) g r j ut us ub (A.setIfInBounds o u) :=
 ⟨h.y.set hg.2 hg.1 o u, h.t.set h.y.blk (by decide) u, h.s.set h.y.blk (by decide) u, h.b.set h.y.blk (by decide) u⟩
theorem ClZ.at_ (h : ClZ w X g r j ut us ub A) {o : Nat} {v : Value} (hv : A[o]? = some v) : X.cell? ⟨g, o, none⟩ = some v ∧ X.frozen? ⟨g, o, none⟩ = false := ⟨by rw [h.y.blk.cell]; exact hv, h.y.blk.frozen o⟩
end
/-- the job that is returned -/
structure ClF (w X : World) (r : Nat) (j : JobP) (ut us ub : Value) : Prop where
 cells : X.cell? ⟨r, 0, none⟩ = some (.int .i64 j.id) ∧ X.cell? ⟨r, 1, none⟩ = some (.int .i64 j.arr) ∧ X.cell? ⟨r, 2, none⟩ = some (.string (bstr j.fl)) ∧ X.cell? ⟨r, 3, none⟩ = some (.string (bstr j.fd)) ∧ X.cell? ⟨r, 4, none⟩ = some ut ∧ X.cell? ⟨r, 5, none⟩ = some us ∧ X.cell? ⟨r, 6, none⟩ = some ub
 own : JobOwn X w.heap.size j ut us ub
 keep : Keeps w X
theorem clone_end {w X Y : World} {g r : Nat} {j : JobP} {ut us ub : Value} {A : Array Value} (h : ClZ w X g r j ut us ub A) (hB : Blk Y r 55 (jobA j ut us ub)) (hM : Mods (· = r) X Y) (hg : w.heap.size ≤ g) (hr : w.heap.size ≤ r) : ClF w Y r j ut us ub := by
 have h1 : JOwnT Y g j ut := ownsRow_mods h.t hM (fun x hx e => Frm.ownsRow_ne h.t h.y.res (by decide) (by rw [hx, e]))
 have h2 : JOwnS Y g j us := ownsRow_mods h.s hM (fun x hx e => Frm.ownsRow_ne h.s h.y.res (by decide) (by rw [hx, e]))
 have h3 : JOwnB Y g j ub := ownsRow_mods h.b hM (fun x hx e => Frm.ownsRow_ne h.b h.y.res (by decide) (by rw [hx, e]))
 refine ⟨?_, ⟨Env.ownsRow_lower3 h1 hg, Env.ownsRow_lower3 h2 hg, (Own.piece h3).lower hg⟩, hM.keeps h.y.keep (fun x hx => by rw [hx]; exact hr)⟩
 refine ⟨?_, ?_, ?_, ?_, ?_, ?_, ?_⟩ <;> (rw [hB.cell]; rfl)
set_option maxRecDepth 100000 in
set_option maxHeartbeats 4000000 in
theorem clone_any (w : World) (j : JobP) (vt vs vb : Value) (h : JobAt w j vt vs vb) (hT : j.tos.length ≤ 1000000) (hS : j.st.length ≤ 1000000) (hB : j.body.length ≤ 1000000) :
  Calls Tryz.prog 56 #[.agg (jobA j vt vs vb)] w fun e w' => ∃ ut us ub, e = .returned (.agg (jobA j ut us ub)) ∧ JobOwn w' w.heap.size j ut us ub ∧ Keeps w w' := by
 have HJ := Lib.hid h
 have HN := Lib.hid (And.intro hT (And.intro hS hB))
 clear h hT hS hB
 go_enter Tryz.func56, Tryz.ntmps56
 go_upto_region 1 with fail
 have HX := Lib.hid (show ClX w ((w.alloc (.cells (jobA j vt vs vb) 55)).alloc (.cells #[.int .i64 0, .int .i64 0, .string ⟨#[]⟩, .string ⟨#[]⟩, .slice none 0 0, .slice none 0 0, .slice none 0 0] 55)) w.heap.size (w.heap.size + 1) j vt vs vb (jobA j vt vs vb) from
  ⟨(Blk.new w _ _ rfl).keeps ((Keeps.refl _).alloc _), Blk.new _ _ _ (by simp), HJ.out.keeps (((Keeps.refl _).alloc _).alloc _), ((Keeps.refl _).alloc _).alloc _⟩)
 generalize World.alloc (World.alloc w _) _ = w1 at *
 have HG := Lib.hid (And.intro (Nat.le_refl w.heap.size) (show w.heap.size ≠ w.heap.size + 1 by omega))
 obtain ⟨g, hg⟩ : ∃ z, w.heap.size = z := ⟨_, rfl⟩
 have HG := Lib.hid (show w.heap.size ≤ g ∧ g ≠ g + 1 by omega)
 rw [hg] at HX ⊢
 have HB := Lib.hid (show w.heap.size = g from hg)
 clear hg HJ
 go_cut [5] (fun _ wx => ∃ p2 c2 p5 c5 p8 c8, Hid (ClZ w wx g (g + 1) j (.slice p2 j.tos.length c2) (.slice p5 j.st.length c5) (.slice p8 j.body.length c8) (jobA j (.slice p2 j.tos.length c2) (.slice p5 j.st.length c5) (.slice p8 j.body.length c8))))
 case first =>
  have HX := Lib.hid (HX.out.keeps (Keeps.refl w1).drew)
  refine wp_region_noPanic ?_
  refine wp_region_held_drew (S := fun w' => Mods (· = g) w1 w') (by kernel_rfl) ((Mods.refl (· = g) w1).drew) (fun _ => ?_)
  have hHeld : Mods (· = g) w1 (w1).drew := (Mods.refl (· = g) w1).drew
  generalize World.drew w1 = xs at *
  refine tq 0 3 ?_
  refine tq 3 6 ?_
  refine tq 6 9 ?_
  refine wpAnyH_ready (rs := [1, 4, 7]) (by kernel_rfl) (by simp) ?_
  refine AllReadyH.cons (o := _) rfl (fun K hK => ?_) ?_
  ·have hx : World.cell? xs ⟨g, 4, none⟩ = some vt := by rw [HX.out.blk.cell]; rfl
   go_simp
   clear hx
   have hb := hHeld
   refine bkm hK hb ?_
   clear hK K hHeld
   have hHeld : Mods (· = g) w1 xs := hb
   clear hb
   refine wpAnyH_ready (rs := [2, 4, 7]) (by kernel_rfl) (by simp) ?_
   refine AllReadyH.cons (o := _) rfl (fun K hK => ?_) ?_
   ·go_simp
    refine (cloneT_any _ _ j.tos HX.out.job.tos HN.out.1).mono ?_
    rintro e x2 ⟨u2, rfl, ho2, hk⟩
    have HT := Lib.hid (show JOwnT x2 g j u2 from Env.ownsRow_lower3 ho2 (by rw [← HB.out]; exact HX.out.keep.size))
    obtain ⟨p2, c2, rfl, -, -⟩ := ownsRow_form ho2
    have HX := Lib.hid (HX.out.keeps hk)
    have hb := hHeld.then hk
    clear hk ho2
    go_wp2_with fail
    refine bkm hK hb ?_
    clear hK K hHeld
    have hHeld : Mods (· = g) w1 x2 := hb
    clear hb
    refine wpAnyH_ready (rs := [4, 7]) (by kernel_rfl) (by simp) ?_
    refine AllReadyH.cons (o := _) rfl (fun K hK => ?_) ?_
    ·have hx : World.cell? x2 ⟨g, 5, none⟩ = some vs := by rw [HX.out.blk.cell]; rfl
     go_simp
     clear hx
     have hb := hHeld
     refine bkm hK hb ?_
     clear hK K hHeld
     have hHeld : Mods (· = g) w1 x2 := hb
     clear hb
     refine wpAnyH_ready (rs := [5, 7]) (by kernel_rfl) (by simp) ?_
     refine AllReadyH.cons (o := _) rfl (fun K hK => ?_) ?_
     ·go_simp
      refine (cloneS_any _ _ j.st HX.out.job.st HN.out.2.1).mono ?_
      rintro e x5 ⟨u5, rfl, ho5, hk⟩
      have HS := Lib.hid (show JOwnS x5 g j u5 from Env.ownsRow_lower3 ho5 (by rw [← HB.out]; exact HX.out.keep.size))
      obtain ⟨p5, c5, rfl, -, -⟩ := ownsRow_form ho5
      have HX := Lib.hid (HX.out.keeps hk)
      have HT := Lib.hid (HT.out.keeps hk)
      have hb := hHeld.then hk
      clear hk ho5
      go_wp2_with fail
      refine bkm hK hb ?_
      clear hK K hHeld
      have hHeld : Mods (· = g) w1 x5 := hb
      clear hb
      refine rd1 7 (fun K hK => ?_)
      have hx : World.cell? x5 ⟨g, 6, none⟩ = some vb := by rw [HX.out.blk.cell]; rfl
      go_simp
      clear hx
      have hb := hHeld
      refine bkm hK hb ?_
      clear hK K hHeld
      have hHeld : Mods (· = g) w1 x5 := hb
      clear hb
      refine tq 9 12 ?_
      refine rd1 8 (fun K hK => ?_)
      go_simp
      refine (cloneB_any _ _ j.body HX.out.job.body HN.out.2.2).mono ?_
      rintro e x8 ⟨u8, rfl, ho8, hk⟩
      have HO := Lib.hid (show JOwnB x8 g j u8 from Env.ownsRow_lower3 ho8 (by rw [← HB.out]; exact HX.out.keep.size))
      obtain ⟨p8, c8, rfl, -, -⟩ := ownsRow_form ho8
      have HX := Lib.hid (HX.out.keeps hk)
      have HT := Lib.hid (HT.out.keeps hk)
      have HS := Lib.hid (HS.out.keeps hk)
      have hb := hHeld.then hk
      rw [List.length_map] at HO ⊢
      have HZ := Lib.hid (ClZ.mk HX.out.y HT.out HS.out HO.out)
      clear hk ho8 HX HT HS HO
      go_wp2_with fail
      refine bkm hK hb ?_
      clear hK K hHeld
      have hHeld : Mods (· = g) w1 x8 := hb
      clear hb
      refine rd1 10 (fun K hK => ?_)
      obtain ⟨hx, hz⟩ := HZ.out.at_ (o := 4) (v := vt) rfl
      go_simp
      have hb := hHeld.setCell (p := ⟨g, 4, none⟩) (fun _ => rfl) (.slice p2 j.tos.length c2)
      have HZ := Lib.hid (HZ.out.set HG.out 4 (.slice p2 j.tos.length c2))
      clear hx hz
      generalize World.setCell x8 _ _ = xa at *
      refine bkm hK hb ?_
      clear hK K hHeld
      have hHeld : Mods (· = g) w1 xa := hb
      clear hb
      refine tq 11 13 ?_
      refine rd1 12 (fun K hK => ?_)
      obtain ⟨hx, hz⟩ := HZ.out.at_ (o := 5) (v := vs) rfl
      go_simp
      have hb := hHeld.setCell (p := ⟨g, 5, none⟩) (fun _ => rfl) (.slice p5 j.st.length c5)
      have HZ := Lib.hid (HZ.out.set HG.out 5 (.slice p5 j.st.length c5))
      clear hx hz
      generalize World.setCell xa _ _ = xb at *
      refine bkm hK hb ?_
      clear hK K hHeld
      have hHeld : Mods (· = g) w1 xb := hb
      clear hb
      refine tq 13 14 ?_
      refine rd1 14 (fun K hK => ?_)
      obtain ⟨hx, hz⟩ := HZ.out.at_ (o := 6) (v := vb) rfl
      go_simp
      have hb := hHeld.setCell (p := ⟨g, 6, none⟩) (fun _ => rfl) (.slice p8 j.body.length c8)
      have HZ := Lib.hid (HZ.out.set HG.out 6 (.slice p8 j.body.length c8))
      clear hx hz
      generalize World.setCell xb _ _ = xc at *
      refine bkm hK hb ?_
      clear hK K hHeld
      have hHeld : Mods (· = g) w1 xc := hb
      clear hb
      refine wpAnyH_done (by kernel_rfl) ?_ _
      refine NoPanic.normal ?_
      go_wp2_with fail
      go_meet
      exact ⟨_, _, _, _, _, _, HZ⟩
     refine AllReadyH.cons (o := _) rfl (fun K hK => ?_) ?_
     ·have hx : World.cell? x2 ⟨g, 6, none⟩ = some vb := by rw [HX.out.blk.cell]; rfl
      go_simp
      clear hx
      have hb := hHeld
      refine bkm hK hb ?_
      clear hK K hHeld
      have hHeld : Mods (· = g) w1 x2 := hb
      clear hb
      refine tq 9 12 ?_
      refine rd1 5 (fun K hK => ?_)
      go_simp
      refine (cloneS_any _ _ j.st HX.out.job.st HN.out.2.1).mono ?_
      rintro e x5 ⟨u5, rfl, ho5, hk⟩
      have HS := Lib.hid (show JOwnS x5 g j u5 from Env.ownsRow_lower3 ho5 (by rw [← HB.out]; exact HX.out.keep.size))
      obtain ⟨p5, c5, rfl, -, -⟩ := ownsRow_form ho5
      have HX := Lib.hid (HX.out.keeps hk)
      have HT := Lib.hid (HT.out.keeps hk)
      have hb := hHeld.then hk
      clear hk ho5
      go_wp2_with fail
      refine bkm hK hb ?_
      clear hK K hHeld
      have hHeld : Mods (· = g) w1 x5 := hb
      clear hb
      refine rd1 8 (fun K hK => ?_)
      go_simp
      refine (cloneB_any _ _ j.body HX.out.job.body HN.out.2.2).mono ?_
      rintro e x8 ⟨u8, rfl, ho8, hk⟩
      have HO := Lib.hid (show JOwnB x8 g j u8 from Env.ownsRow_lower3 ho8 (by rw [← HB.out]; exact HX.out.keep.size))
      obtain ⟨p8, c8, rfl, -, -⟩ := ownsRow_form ho8
      have HX := Lib.hid (HX.out.keeps hk)
      have HT := Lib.hid (HT.out.keeps hk)
      have HS := Lib.hid (HS.out.keeps hk)
      have hb := hHeld.then hk
      rw [List.length_map] at HO ⊢
      have HZ := Lib.hid (ClZ.mk HX.out.y HT.out HS.out HO.out)
      clear hk ho8 HX HT HS HO
      go_wp2_with fail
      refine bkm hK hb ?_
      clear hK K hHeld
      have hHeld : Mods (· = g) w1 x8 := hb
      clear hb
      refine rd1 10 (fun K hK => ?_)
      obtain ⟨hx, hz⟩ := HZ.out.at_ (o := 4) (v := vt) rfl
      go_simp
      have hb := hHeld.setCell (p := ⟨g, 4, none⟩) (fun _ => rfl) (.slice p2 j.tos.length c2)
      have HZ := Lib.hid (HZ.out.set HG.out 4 (.slice p2 j.tos.length c2))
      clear hx hz
      generalize World.setCell x8 _ _ = xa at *
      refine bkm hK hb ?_
      clear hK K hHeld
      have hHeld : Mods (· = g) w1 xa := hb
      clear hb
      refine tq 11 13 ?_
      refine rd1 12 (fun K hK => ?_)
      obtain ⟨hx, hz⟩ := HZ.out.at_ (o := 5) (v := vs) rfl
      go_simp
      have hb := hHeld.setCell (p := ⟨g, 5, none⟩) (fun _ => rfl) (.slice p5 j.st.length c5)
      have HZ := Lib.hid (HZ.out.set HG.out 5 (.slice p5 j.st.length c5))
      clear hx hz
      generalize World.setCell xa _ _ = xb at *
      refine bkm hK hb ?_
      clear hK K hHeld
      have hHeld : Mods (· = g) w1 xb := hb
      clear hb
      refine tq 13 14 ?_
      refine rd1 14 (fun K hK => ?_)
      obtain ⟨hx, hz⟩ := HZ.out.at_ (o := 6) (v := vb) rfl
      go_simp
      have hb := hHeld.setCell (p := ⟨g, 6, none⟩) (fun _ => rfl) (.slice p8 j.body.length c8)
      have HZ := Lib.hid (HZ.out.set HG.out 6 (.slice p8 j.body.length c8))
      clear hx hz
      generalize World.setCell xb _ _ = xc at *
      refine bkm hK hb ?_
      clear hK K hHeld
      have hHeld : Mods (· = g) w1 xc := hb
      clear hb
      refine wpAnyH_done (by kernel_rfl) ?_ _
      refine NoPanic.normal ?_
      go_wp2_with fail
      go_meet
      exact ⟨_, _, _, _, _, _, HZ⟩
     exact AllReadyH.nil
    refine AllReadyH.cons (o := _) rfl (fun K hK => ?_) ?_
    ·have hx : World.cell? x2 ⟨g, 6, none⟩ = some vb := by rw [HX.out.blk.cell]; rfl
     go_simp
     clear hx
     have hb := hHeld
     refine bkm hK hb ?_
     clear hK K hHeld
     have hHeld : Mods (· = g) w1 x2 := hb
     clear hb
     refine rd1 4 (fun K hK => ?_)
     have hx : World.cell? x2 ⟨g, 5, none⟩ = some vs := by rw [HX.out.blk.cell]; rfl
     go_simp
     clear hx
     have hb := hHeld
     refine bkm hK hb ?_
     clear hK K hHeld
     have hHeld : Mods (· = g) w1 x2 := hb
     clear hb
     refine tq 9 12 ?_
     refine rd1 5 (fun K hK => ?_)
     go_simp
     refine (cloneS_any _ _ j.st HX.out.job.st HN.out.2.1).mono ?_
     rintro e x5 ⟨u5, rfl, ho5, hk⟩
     have HS := Lib.hid (show JOwnS x5 g j u5 from Env.ownsRow_lower3 ho5 (by rw [← HB.out]; exact HX.out.keep.size))
     obtain ⟨p5, c5, rfl, -, -⟩ := ownsRow_form ho5
     have HX := Lib.hid (HX.out.keeps hk)
     have HT := Lib.hid (HT.out.keeps hk)
     have hb := hHeld.then hk
     clear hk ho5
     go_wp2_with fail
     refine bkm hK hb ?_
     clear hK K hHeld
     have hHeld : Mods (· = g) w1 x5 := hb
     clear hb
     refine rd1 8 (fun K hK => ?_)
     go_simp
     refine (cloneB_any _ _ j.body HX.out.job.body HN.out.2.2).mono ?_
     rintro e x8 ⟨u8, rfl, ho8, hk⟩
     have HO := Lib.hid (show JOwnB x8 g j u8 from Env.ownsRow_lower3 ho8 (by rw [← HB.out]; exact HX.out.keep.size))
     obtain ⟨p8, c8, rfl, -, -⟩ := ownsRow_form ho8
     have HX := Lib.hid (HX.out.keeps hk)
     have HT := Lib.hid (HT.out.keeps hk)
     have HS := Lib.hid (HS.out.keeps hk)
     have hb := hHeld.then hk
     rw [List.length_map] at HO ⊢
     have HZ := Lib.hid (ClZ.mk HX.out.y HT.out HS.out HO.out)
     clear hk ho8 HX HT HS HO
     go_wp2_with fail
     refine bkm hK hb ?_
     clear hK K hHeld
     have hHeld : Mods (· = g) w1 x8 := hb
     clear hb
     refine rd1 10 (fun K hK => ?_)
     obtain ⟨hx, hz⟩ := HZ.out.at_ (o := 4) (v := vt) rfl
     go_simp
     have hb := hHeld.setCell (p := ⟨g, 4, none⟩) (fun _ => rfl) (.slice p2 j.tos.length c2)
     have HZ := Lib.hid (HZ.out.set HG.out 4 (.slice p2 j.tos.length c2))
     clear hx hz
     generalize World.setCell x8 _ _ = xa at *
     refine bkm hK hb ?_
     clear hK K hHeld
     have hHeld : Mods (· = g) w1 xa := hb
     clear hb
     refine tq 11 13 ?_
     refine rd1 12 (fun K hK => ?_)
     obtain ⟨hx, hz⟩ := HZ.out.at_ (o := 5) (v := vs) rfl
     go_simp
     have hb := hHeld.setCell (p := ⟨g, 5, none⟩) (fun _ => rfl) (.slice p5 j.st.length c5)
     have HZ := Lib.hid (HZ.out.set HG.out 5 (.slice p5 j.st.length c5))
     clear hx hz
     generalize World.setCell xa _ _ = xb at *
     refine bkm hK hb ?_
     clear hK K hHeld
     have hHeld : Mods (· = g) w1 xb := hb
     clear hb
     refine tq 13 14 ?_
     refine rd1 14 (fun K hK => ?_)
     obtain ⟨hx, hz⟩ := HZ.out.at_ (o := 6) (v := vb) rfl
     go_simp
     have hb := hHeld.setCell (p := ⟨g, 6, none⟩) (fun _ => rfl) (.slice p8 j.body.length c8)
     have HZ := Lib.hid (HZ.out.set HG.out 6 (.slice p8 j.body.length c8))
     clear hx hz
     generalize World.setCell xb _ _ = xc at *
     refine bkm hK hb ?_
     clear hK K hHeld
     have hHeld : Mods (· = g) w1 xc := hb
     clear hb
     refine wpAnyH_done (by kernel_rfl) ?_ _
     refine NoPanic.normal ?_
     go_wp2_with fail
     go_meet
     exact ⟨_, _, _, _, _, _, HZ⟩
    exact AllReadyH.nil
   refine AllReadyH.cons (o := _) rfl (fun K hK => ?_) ?_
   ·have hx : World.cell? xs ⟨g, 5, none⟩ = some vs := by rw [HX.out.blk.cell]; rfl
    go_simp
    clear hx
    have hb := hHeld
    refine bkm hK hb ?_
    clear hK K hHeld
    have hHeld : Mods (· = g) w1 xs := hb
    clear hb
    refine wpAnyH_ready (rs := [2, 7]) (by kernel_rfl) (by simp) ?_
    refine AllReadyH.cons (o := _) rfl (fun K hK => ?_) ?_
    ·go_simp
     refine (cloneT_any _ _ j.tos HX.out.job.tos HN.out.1).mono ?_
     rintro e x2 ⟨u2, rfl, ho2, hk⟩
     have HT := Lib.hid (show JOwnT x2 g j u2 from Env.ownsRow_lower3 ho2 (by rw [← HB.out]; exact HX.out.keep.size))
     obtain ⟨p2, c2, rfl, -, -⟩ := ownsRow_form ho2
     have HX := Lib.hid (HX.out.keeps hk)
     have hb := hHeld.then hk
     clear hk ho2
     go_wp2_with fail
     refine bkm hK hb ?_
     clear hK K hHeld
     have hHeld : Mods (· = g) w1 x2 := hb
     clear hb
     refine wpAnyH_ready (rs := [5, 7]) (by kernel_rfl) (by simp) ?_
     refine AllReadyH.cons (o := _) rfl (fun K hK => ?_) ?_
     ·go_simp
      refine (cloneS_any _ _ j.st HX.out.job.st HN.out.2.1).mono ?_
      rintro e x5 ⟨u5, rfl, ho5, hk⟩
      have HS := Lib.hid (show JOwnS x5 g j u5 from Env.ownsRow_lower3 ho5 (by rw [← HB.out]; exact HX.out.keep.size))
      obtain ⟨p5, c5, rfl, -, -⟩ := ownsRow_form ho5
      have HX := Lib.hid (HX.out.keeps hk)
      have HT := Lib.hid (HT.out.keeps hk)
      have hb := hHeld.then hk
      clear hk ho5
      go_wp2_with fail
      refine bkm hK hb ?_
      clear hK K hHeld
      have hHeld : Mods (· = g) w1 x5 := hb
      clear hb
      refine rd1 7 (fun K hK => ?_)
      have hx : World.cell? x5 ⟨g, 6, none⟩ = some vb := by rw [HX.out.blk.cell]; rfl
      go_simp
      clear hx
      have hb := hHeld
      refine bkm hK hb ?_
      clear hK K hHeld
      have hHeld : Mods (· = g) w1 x5 := hb
      clear hb
      refine tq 9 12 ?_
      refine rd1 8 (fun K hK => ?_)
      go_simp
      refine (cloneB_any _ _ j.body HX.out.job.body HN.out.2.2).mono ?_
      rintro e x8 ⟨u8, rfl, ho8, hk⟩
      have HO := Lib.hid (show JOwnB x8 g j u8 from Env.ownsRow_lower3 ho8 (by rw [← HB.out]; exact HX.out.keep.size))
      obtain ⟨p8, c8, rfl, -, -⟩ := ownsRow_form ho8
      have HX := Lib.hid (HX.out.keeps hk)
      have HT := Lib.hid (HT.out.keeps hk)
      have HS := Lib.hid (HS.out.keeps hk)
      have hb := hHeld.then hk
      rw [List.length_map] at HO ⊢
      have HZ := Lib.hid (ClZ.mk HX.out.y HT.out HS.out HO.out)
      clear hk ho8 HX HT HS HO
      go_wp2_with fail
      refine bkm hK hb ?_
      clear hK K hHeld
      have hHeld : Mods (· = g) w1 x8 := hb
      clear hb
      refine rd1 10 (fun K hK => ?_)
      obtain ⟨hx, hz⟩ := HZ.out.at_ (o := 4) (v := vt) rfl
      go_simp
      have hb := hHeld.setCell (p := ⟨g, 4, none⟩) (fun _ => rfl) (.slice p2 j.tos.length c2)
      have HZ := Lib.hid (HZ.out.set HG.out 4 (.slice p2 j.tos.length c2))
      clear hx hz
      generalize World.setCell x8 _ _ = xa at *
      refine bkm hK hb ?_
      clear hK K hHeld
      have hHeld : Mods (· = g) w1 xa := hb
      clear hb
      refine tq 11 13 ?_
      refine rd1 12 (fun K hK => ?_)
      obtain ⟨hx, hz⟩ := HZ.out.at_ (o := 5) (v := vs) rfl
      go_simp
      have hb := hHeld.setCell (p := ⟨g, 5, none⟩) (fun _ => rfl) (.slice p5 j.st.length c5)
      have HZ := Lib.hid (HZ.out.set HG.out 5 (.slice p5 j.st.length c5))
      clear hx hz
      generalize World.setCell xa _ _ = xb at *
      refine bkm hK hb ?_
      clear hK K hHeld
      have hHeld : Mods (· = g) w1 xb := hb
      clear hb
      refine tq 13 14 ?_
      refine rd1 14 (fun K hK => ?_)
      obtain ⟨hx, hz⟩ := HZ.out.at_ (o := 6) (v := vb) rfl
      go_simp
      have hb := hHeld.setCell (p := ⟨g, 6, none⟩) (fun _ => rfl) (.slice p8 j.body.length c8)
      have HZ := Lib.hid (HZ.out.set HG.out 6 (.slice p8 j.body.length c8))
      clear hx hz
      generalize World.setCell xb _ _ = xc at *
      refine bkm hK hb ?_
      clear hK K hHeld
      have hHeld : Mods (· = g) w1 xc := hb
      clear hb
      refine wpAnyH_done (by kernel_rfl) ?_ _
      refine NoPanic.normal ?_
      go_wp2_with fail
      go_meet
      exact ⟨_, _, _, _, _, _, HZ⟩
     refine AllReadyH.cons (o := _) rfl (fun K hK => ?_) ?_
     ·have hx : World.cell? x2 ⟨g, 6, none⟩ = some vb := by rw [HX.out.blk.cell]; rfl
      go_simp
      clear hx
      have hb := hHeld
      refine bkm hK hb ?_
      clear hK K hHeld
      have hHeld : Mods (· = g) w1 x2 := hb
      clear hb
      refine tq 9 12 ?_
      refine rd1 5 (fun K hK => ?_)
      go_simp
      refine (cloneS_any _ _ j.st HX.out.job.st HN.out.2.1).mono ?_
      rintro e x5 ⟨u5, rfl, ho5, hk⟩
      have HS := Lib.hid (show JOwnS x5 g j u5 from Env.ownsRow_lower3 ho5 (by rw [← HB.out]; exact HX.out.keep.size))
      obtain ⟨p5, c5, rfl, -, -⟩ := ownsRow_form ho5
      have HX := Lib.hid (HX.out.keeps hk)
      have HT := Lib.hid (HT.out.keeps hk)
      have hb := hHeld.then hk
      clear hk ho5
      go_wp2_with fail
      refine bkm hK hb ?_
      clear hK K hHeld
      have hHeld : Mods (· = g) w1 x5 := hb
      clear hb
      refine rd1 8 (fun K hK => ?_)
      go_simp
      refine (cloneB_any _ _ j.body HX.out.job.body HN.out.2.2).mono ?_
      rintro e x8 ⟨u8, rfl, ho8, hk⟩
      have HO := Lib.hid (show JOwnB x8 g j u8 from Env.ownsRow_lower3 ho8 (by rw [← HB.out]; exact HX.out.keep.size))
      obtain ⟨p8, c8, rfl, -, -⟩ := ownsRow_form ho8
      have HX := Lib.hid (HX.out.keeps hk)
      have HT := Lib.hid (HT.out.keeps hk)
      have HS := Lib.hid (HS.out.keeps hk)
      have hb := hHeld.then hk
      rw [List.length_map] at HO ⊢
      have HZ := Lib.hid (ClZ.mk HX.out.y HT.out HS.out HO.out)
      clear hk ho8 HX HT HS HO
      go_wp2_with fail
      refine bkm hK hb ?_
      clear hK K hHeld
      have hHeld : Mods (· = g) w1 x8 := hb
      clear hb
      refine rd1 10 (fun K hK => ?_)
      obtain ⟨hx, hz⟩ := HZ.out.at_ (o := 4) (v := vt) rfl
      go_simp
      have hb := hHeld.setCell (p := ⟨g, 4, none⟩) (fun _ => rfl) (.slice p2 j.tos.length c2)
      have HZ := Lib.hid (HZ.out.set HG.out 4 (.slice p2 j.tos.length c2))
      clear hx hz
      generalize World.setCell x8 _ _ = xa at *
      refine bkm hK hb ?_
      clear hK K hHeld
      have hHeld : Mods (· = g) w1 xa := hb
      clear hb
      refine tq 11 13 ?_
      refine rd1 12 (fun K hK => ?_)
      obtain ⟨hx, hz⟩ := HZ.out.at_ (o := 5) (v := vs) rfl
      go_simp
      have hb := hHeld.setCell (p := ⟨g, 5, none⟩) (fun _ => rfl) (.slice p5 j.st.length c5)
      have HZ := Lib.hid (HZ.out.set HG.out 5 (.slice p5 j.st.length c5))
      clear hx hz
      generalize World.setCell xa _ _ = xb at *
      refine bkm hK hb ?_
      clear hK K hHeld
      have hHeld : Mods (· = g) w1 xb := hb
      clear hb
      refine tq 13 14 ?_
      refine rd1 14 (fun K hK => ?_)
      obtain ⟨hx, hz⟩ := HZ.out.at_ (o := 6) (v := vb) rfl
      go_simp
      have hb := hHeld.setCell (p := ⟨g, 6, none⟩) (fun _ => rfl) (.slice p8 j.body.length c8)
      have HZ := Lib.hid (HZ.out.set HG.out 6 (.slice p8 j.body.length c8))
      clear hx hz
      generalize World.setCell xb _ _ = xc at *
      refine bkm hK hb ?_
      clear hK K hHeld
      have hHeld : Mods (· = g) w1 xc := hb
      clear hb
      refine wpAnyH_done (by kernel_rfl) ?_ _
      refine NoPanic.normal ?_
      go_wp2_with fail
      go_meet
      exact ⟨_, _, _, _, _, _, HZ⟩
     exact AllReadyH.nil
    refine AllReadyH.cons (o := _) rfl (fun K hK => ?_) ?_
    ·have hx : World.cell? xs ⟨g, 6, none⟩ = some vb := by rw [HX.out.blk.cell]; rfl
     go_simp
     clear hx
     have hb := hHeld
     refine bkm hK hb ?_
     clear hK K hHeld
     have hHeld : Mods (· = g) w1 xs := hb
     clear hb
     refine rd1 2 (fun K hK => ?_)
     go_simp
     refine (cloneT_any _ _ j.tos HX.out.job.tos HN.out.1).mono ?_
     rintro e x2 ⟨u2, rfl, ho2, hk⟩
     have HT := Lib.hid (show JOwnT x2 g j u2 from Env.ownsRow_lower3 ho2 (by rw [← HB.out]; exact HX.out.keep.size))
     obtain ⟨p2, c2, rfl, -, -⟩ := ownsRow_form ho2
     have HX := Lib.hid (HX.out.keeps hk)
     have hb := hHeld.then hk
     clear hk ho2
     go_wp2_with fail
     refine bkm hK hb ?_
     clear hK K hHeld
     have hHeld : Mods (· = g) w1 x2 := hb
     clear hb
     refine tq 9 12 ?_
     refine rd1 5 (fun K hK => ?_)
     go_simp
     refine (cloneS_any _ _ j.st HX.out.job.st HN.out.2.1).mono ?_
     rintro e x5 ⟨u5, rfl, ho5, hk⟩
     have HS := Lib.hid (show JOwnS x5 g j u5 from Env.ownsRow_lower3 ho5 (by rw [← HB.out]; exact HX.out.keep.size))
     obtain ⟨p5, c5, rfl, -, -⟩ := ownsRow_form ho5
     have HX := Lib.hid (HX.out.keeps hk)
     have HT := Lib.hid (HT.out.keeps hk)
     have hb := hHeld.then hk
     clear hk ho5
     go_wp2_with fail
     refine bkm hK hb ?_
     clear hK K hHeld
     have hHeld : Mods (· = g) w1 x5 := hb
     clear hb
     refine rd1 8 (fun K hK => ?_)
     go_simp
     refine (cloneB_any _ _ j.body HX.out.job.body HN.out.2.2).mono ?_
     rintro e x8 ⟨u8, rfl, ho8, hk⟩
     have HO := Lib.hid (show JOwnB x8 g j u8 from Env.ownsRow_lower3 ho8 (by rw [← HB.out]; exact HX.out.keep.size))
     obtain ⟨p8, c8, rfl, -, -⟩ := ownsRow_form ho8
     have HX := Lib.hid (HX.out.keeps hk)
     have HT := Lib.hid (HT.out.keeps hk)
     have HS := Lib.hid (HS.out.keeps hk)
     have hb := hHeld.then hk
     rw [List.length_map] at HO ⊢
     have HZ := Lib.hid (ClZ.mk HX.out.y HT.out HS.out HO.out)
     clear hk ho8 HX HT HS HO
     go_wp2_with fail
     refine bkm hK hb ?_
     clear hK K hHeld
     have hHeld : Mods (· = g) w1 x8 := hb
     clear hb
     refine rd1 10 (fun K hK => ?_)
     obtain ⟨hx, hz⟩ := HZ.out.at_ (o := 4) (v := vt) rfl
     go_simp
     have hb := hHeld.setCell (p := ⟨g, 4, none⟩) (fun _ => rfl) (.slice p2 j.tos.length c2)
     have HZ := Lib.hid (HZ.out.set HG.out 4 (.slice p2 j.tos.length c2))
     clear hx hz
     generalize World.setCell x8 _ _ = xa at *
     refine bkm hK hb ?_
     clear hK K hHeld
     have hHeld : Mods (· = g) w1 xa := hb
     clear hb
     refine tq 11 13 ?_
     refine rd1 12 (fun K hK => ?_)
     obtain ⟨hx, hz⟩ := HZ.out.at_ (o := 5) (v := vs) rfl
     go_simp
     have hb := hHeld.setCell (p := ⟨g, 5, none⟩) (fun _ => rfl) (.slice p5 j.st.length c5)
     have HZ := Lib.hid (HZ.out.set HG.out 5 (.slice p5 j.st.length c5))
     clear hx hz
     generalize World.setCell xa _ _ = xb at *
     refine bkm hK hb ?_
     clear hK K hHeld
     have hHeld : Mods (· = g) w1 xb := hb
     clear hb
     refine tq 13 14 ?_
     refine rd1 14 (fun K hK => ?_)
     obtain ⟨hx, hz⟩ := HZ.out.at_ (o := 6) (v := vb) rfl
     go_simp
     have hb := hHeld.setCell (p := ⟨g, 6, none⟩) (fun _ => rfl) (.slice p8 j.body.length c8)
     have HZ := Lib.hid (HZ.out.set HG.out 6 (.slice p8 j.body.length c8))
     clear hx hz
     generalize World.setCell xb _ _ = xc at *
     refine bkm hK hb ?_
     clear hK K hHeld
     have hHeld : Mods (· = g) w1 xc := hb
     clear hb
     refine wpAnyH_done (by kernel_rfl) ?_ _
     refine NoPanic.normal ?_
     go_wp2_with fail
     go_meet
     exact ⟨_, _, _, _, _, _, HZ⟩
    exact AllReadyH.nil
   refine AllReadyH.cons (o := _) rfl (fun K hK => ?_) ?_
   ·have hx : World.cell? xs ⟨g, 6, none⟩ = some vb := by rw [HX.out.blk.cell]; rfl
    go_simp
    clear hx
    have hb := hHeld
    refine bkm hK hb ?_
    clear hK K hHeld
    have hHeld : Mods (· = g) w1 xs := hb
    clear hb
    refine wpAnyH_ready (rs := [2, 4]) (by kernel_rfl) (by simp) ?_
    refine AllReadyH.cons (o := _) rfl (fun K hK => ?_) ?_
    ·go_simp
     refine (cloneT_any _ _ j.tos HX.out.job.tos HN.out.1).mono ?_
     rintro e x2 ⟨u2, rfl, ho2, hk⟩
     have HT := Lib.hid (show JOwnT x2 g j u2 from Env.ownsRow_lower3 ho2 (by rw [← HB.out]; exact HX.out.keep.size))
     obtain ⟨p2, c2, rfl, -, -⟩ := ownsRow_form ho2
     have HX := Lib.hid (HX.out.keeps hk)
     have hb := hHeld.then hk
     clear hk ho2
     go_wp2_with fail
     refine bkm hK hb ?_
     clear hK K hHeld
     have hHeld : Mods (· = g) w1 x2 := hb
     clear hb
     refine rd1 4 (fun K hK => ?_)
     have hx : World.cell? x2 ⟨g, 5, none⟩ = some vs := by rw [HX.out.blk.cell]; rfl
     go_simp
     clear hx
     have hb := hHeld
     refine bkm hK hb ?_
     clear hK K hHeld
     have hHeld : Mods (· = g) w1 x2 := hb
     clear hb
     refine tq 9 12 ?_
     refine rd1 5 (fun K hK => ?_)
     go_simp
     refine (cloneS_any _ _ j.st HX.out.job.st HN.out.2.1).mono ?_
     rintro e x5 ⟨u5, rfl, ho5, hk⟩
     have HS := Lib.hid (show JOwnS x5 g j u5 from Env.ownsRow_lower3 ho5 (by rw [← HB.out]; exact HX.out.keep.size))
     obtain ⟨p5, c5, rfl, -, -⟩ := ownsRow_form ho5
     have HX := Lib.hid (HX.out.keeps hk)
     have HT := Lib.hid (HT.out.keeps hk)
     have hb := hHeld.then hk
     clear hk ho5
     go_wp2_with fail
     refine bkm hK hb ?_
     clear hK K hHeld
     have hHeld : Mods (· = g) w1 x5 := hb
     clear hb
     refine rd1 8 (fun K hK => ?_)
     go_simp
     refine (cloneB_any _ _ j.body HX.out.job.body HN.out.2.2).mono ?_
     rintro e x8 ⟨u8, rfl, ho8, hk⟩
     have HO := Lib.hid (show JOwnB x8 g j u8 from Env.ownsRow_lower3 ho8 (by rw [← HB.out]; exact HX.out.keep.size))
     obtain ⟨p8, c8, rfl, -, -⟩ := ownsRow_form ho8
     have HX := Lib.hid (HX.out.keeps hk)
     have HT := Lib.hid (HT.out.keeps hk)
     have HS := Lib.hid (HS.out.keeps hk)
     have hb := hHeld.then hk
     rw [List.length_map] at HO ⊢
     have HZ := Lib.hid (ClZ.mk HX.out.y HT.out HS.out HO.out)
     clear hk ho8 HX HT HS HO
     go_wp2_with fail
     refine bkm hK hb ?_
     clear hK K hHeld
     have hHeld : Mods (· = g) w1 x8 := hb
     clear hb
     refine rd1 10 (fun K hK => ?_)
     obtain ⟨hx, hz⟩ := HZ.out.at_ (o := 4) (v := vt) rfl
     go_simp
     have hb := hHeld.setCell (p := ⟨g, 4, none⟩) (fun _ => rfl) (.slice p2 j.tos.length c2)
     have HZ := Lib.hid (HZ.out.set HG.out 4 (.slice p2 j.tos.length c2))
     clear hx hz
     generalize World.setCell x8 _ _ = xa at *
     refine bkm hK hb ?_
     clear hK K hHeld
     have hHeld : Mods (· = g) w1 xa := hb
     clear hb
     refine tq 11 13 ?_
     refine rd1 12 (fun K hK => ?_)
     obtain ⟨hx, hz⟩ := HZ.out.at_ (o := 5) (v := vs) rfl
     go_simp
     have hb := hHeld.setCell (p := ⟨g, 5, none⟩) (fun _ => rfl) (.slice p5 j.st.length c5)
     have HZ := Lib.hid (HZ.out.set HG.out 5 (.slice p5 j.st.length c5))
     clear hx hz
     generalize World.setCell xa _ _ = xb at *
     refine bkm hK hb ?_
     clear hK K hHeld
     have hHeld : Mods (· = g) w1 xb := hb
     clear hb
     refine tq 13 14 ?_
     refine rd1 14 (fun K hK => ?_)
     obtain ⟨hx, hz⟩ := HZ.out.at_ (o := 6) (v := vb) rfl
     go_simp
     have hb := hHeld.setCell (p := ⟨g, 6, none⟩) (fun _ => rfl) (.slice p8 j.body.length c8)
     have HZ := Lib.hid (HZ.out.set HG.out 6 (.slice p8 j.body.length c8))
     clear hx hz
     generalize World.setCell xb _ _ = xc at *
     refine bkm hK hb ?_
     clear hK K hHeld
     have hHeld : Mods (· = g) w1 xc := hb
     clear hb
     refine wpAnyH_done (by kernel_rfl) ?_ _
     refine NoPanic.normal ?_
     go_wp2_with fail
     go_meet
     exact ⟨_, _, _, _, _, _, HZ⟩
    refine AllReadyH.cons (o := _) rfl (fun K hK => ?_) ?_
    ·have hx : World.cell? xs ⟨g, 5, none⟩ = some vs := by rw [HX.out.blk.cell]; rfl
     go_simp
     clear hx
     have hb := hHeld
     refine bkm hK hb ?_
     clear hK K hHeld
     have hHeld : Mods (· = g) w1 xs := hb
     clear hb
     refine rd1 2 (fun K hK => ?_)
     go_simp
     refine (cloneT_any _ _ j.tos HX.out.job.tos HN.out.1).mono ?_
     rintro e x2 ⟨u2, rfl, ho2, hk⟩
     have HT := Lib.hid (show JOwnT x2 g j u2 from Env.ownsRow_lower3 ho2 (by rw [← HB.out]; exact HX.out.keep.size))
     obtain ⟨p2, c2, rfl, -, -⟩ := ownsRow_form ho2
     have HX := Lib.hid (HX.out.keeps hk)
     have hb := hHeld.then hk
     clear hk ho2
     go_wp2_with fail
     refine bkm hK hb ?_
     clear hK K hHeld
     have hHeld : Mods (· = g) w1 x2 := hb
     clear hb
     refine tq 9 12 ?_
     refine rd1 5 (fun K hK => ?_)
     go_simp
     refine (cloneS_any _ _ j.st HX.out.job.st HN.out.2.1).mono ?_
     rintro e x5 ⟨u5, rfl, ho5, hk⟩
     have HS := Lib.hid (show JOwnS x5 g j u5 from Env.ownsRow_lower3 ho5 (by rw [← HB.out]; exact HX.out.keep.size))
     obtain ⟨p5, c5, rfl, -, -⟩ := ownsRow_form ho5
     have HX := Lib.hid (HX.out.keeps hk)
     have HT := Lib.hid (HT.out.keeps hk)
     have hb := hHeld.then hk
     clear hk ho5
     go_wp2_with fail
     refine bkm hK hb ?_
     clear hK K hHeld
     have hHeld : Mods (· = g) w1 x5 := hb
     clear hb
     refine rd1 8 (fun K hK => ?_)
     go_simp
     refine (cloneB_any _ _ j.body HX.out.job.body HN.out.2.2).mono ?_
     rintro e x8 ⟨u8, rfl, ho8, hk⟩
     have HO := Lib.hid (show JOwnB x8 g j u8 from Env.ownsRow_lower3 ho8 (by rw [← HB.out]; exact HX.out.keep.size))
     obtain ⟨p8, c8, rfl, -, -⟩ := ownsRow_form ho8
     have HX := Lib.hid (HX.out.keeps hk)
     have HT := Lib.hid (HT.out.keeps hk)
     have HS := Lib.hid (HS.out.keeps hk)
     have hb := hHeld.then hk
     rw [List.length_map] at HO ⊢
     have HZ := Lib.hid (ClZ.mk HX.out.y HT.out HS.out HO.out)
     clear hk ho8 HX HT HS HO
     go_wp2_with fail
     refine bkm hK hb ?_
     clear hK K hHeld
     have hHeld : Mods (· = g) w1 x8 := hb
     clear hb
     refine rd1 10 (fun K hK => ?_)
     obtain ⟨hx, hz⟩ := HZ.out.at_ (o := 4) (v := vt) rfl
     go_simp
     have hb := hHeld.setCell (p := ⟨g, 4, none⟩) (fun _ => rfl) (.slice p2 j.tos.length c2)
     have HZ := Lib.hid (HZ.out.set HG.out 4 (.slice p2 j.tos.length c2))
     clear hx hz
     generalize World.setCell x8 _ _ = xa at *
     refine bkm hK hb ?_
     clear hK K hHeld
     have hHeld : Mods (· = g) w1 xa := hb
     clear hb
     refine tq 11 13 ?_
     refine rd1 12 (fun K hK => ?_)
     obtain ⟨hx, hz⟩ := HZ.out.at_ (o := 5) (v := vs) rfl
     go_simp
     have hb := hHeld.setCell (p := ⟨g, 5, none⟩) (fun _ => rfl) (.slice p5 j.st.length c5)
     have HZ := Lib.hid (HZ.out.set HG.out 5 (.slice p5 j.st.length c5))
     clear hx hz
     generalize World.setCell xa _ _ = xb at *
     refine bkm hK hb ?_
     clear hK K hHeld
     have hHeld : Mods (· = g) w1 xb := hb
     clear hb
     refine tq 13 14 ?_
     refine rd1 14 (fun K hK => ?_)
     obtain ⟨hx, hz⟩ := HZ.out.at_ (o := 6) (v := vb) rfl
     go_simp
     have hb := hHeld.setCell (p := ⟨g, 6, none⟩) (fun _ => rfl) (.slice p8 j.body.length c8)
     have HZ := Lib.hid (HZ.out.set HG.out 6 (.slice p8 j.body.length c8))
     clear hx hz
     generalize World.setCell xb _ _ = xc at *
     refine bkm hK hb ?_
     clear hK K hHeld
     have hHeld : Mods (· = g) w1 xc := hb
     clear hb
     refine wpAnyH_done (by kernel_rfl) ?_ _
     refine NoPanic.normal ?_
     go_wp2_with fail
     go_meet
     exact ⟨_, _, _, _, _, _, HZ⟩
    exact AllReadyH.nil
   exact AllReadyH.nil
  refine AllReadyH.cons (o := _) rfl (fun K hK => ?_) ?_
  ·have hx : World.cell? xs ⟨g, 5, none⟩ = some vs := by rw [HX.out.blk.cell]; rfl
   go_simp
   clear hx
   have hb := hHeld
   refine bkm hK hb ?_
   clear hK K hHeld
   have hHeld : Mods (· = g) w1 xs := hb
   clear hb
   refine wpAnyH_ready (rs := [1, 7]) (by kernel_rfl) (by simp) ?_
   refine AllReadyH.cons (o := _) rfl (fun K hK => ?_) ?_
   ·have hx : World.cell? xs ⟨g, 4, none⟩ = some vt := by rw [HX.out.blk.cell]; rfl
    go_simp
    clear hx
    have hb := hHeld
    refine bkm hK hb ?_
    clear hK K hHeld
    have hHeld : Mods (· = g) w1 xs := hb
    clear hb
    refine wpAnyH_ready (rs := [2, 7]) (by kernel_rfl) (by simp) ?_
    refine AllReadyH.cons (o := _) rfl (fun K hK => ?_) ?_
    ·go_simp
     refine (cloneT_any _ _ j.tos HX.out.job.tos HN.out.1).mono ?_
     rintro e x2 ⟨u2, rfl, ho2, hk⟩
     have HT := Lib.hid (show JOwnT x2 g j u2 from Env.ownsRow_lower3 ho2 (by rw [← HB.out]; exact HX.out.keep.size))
     obtain ⟨p2, c2, rfl, -, -⟩ := ownsRow_form ho2
     have HX := Lib.hid (HX.out.keeps hk)
     have hb := hHeld.then hk
     clear hk ho2
     go_wp2_with fail
     refine bkm hK hb ?_
     clear hK K hHeld
     have hHeld : Mods (· = g) w1 x2 := hb
     clear hb
     refine wpAnyH_ready (rs := [5, 7]) (by kernel_rfl) (by simp) ?_
     refine AllReadyH.cons (o := _) rfl (fun K hK => ?_) ?_
     ·go_simp
      refine (cloneS_any _ _ j.st HX.out.job.st HN.out.2.1).mono ?_
      rintro e x5 ⟨u5, rfl, ho5, hk⟩
      have HS := Lib.hid (show JOwnS x5 g j u5 from Env.ownsRow_lower3 ho5 (by rw [← HB.out]; exact HX.out.keep.size))
      obtain ⟨p5, c5, rfl, -, -⟩ := ownsRow_form ho5
      have HX := Lib.hid (HX.out.keeps hk)
      have HT := Lib.hid (HT.out.keeps hk)
      have hb := hHeld.then hk
      clear hk ho5
      go_wp2_with fail
      refine bkm hK hb ?_
      clear hK K hHeld
      have hHeld : Mods (· = g) w1 x5 := hb
      clear hb
      refine rd1 7 (fun K hK => ?_)
      have hx : World.cell? x5 ⟨g, 6, none⟩ = some vb := by rw [HX.out.blk.cell]; rfl
      go_simp
      clear hx
      have hb := hHeld
      refine bkm hK hb ?_
      clear hK K hHeld
      have hHeld : Mods (· = g) w1 x5 := hb
      clear hb
      refine tq 9 12 ?_
      refine rd1 8 (fun K hK => ?_)
      go_simp
      refine (cloneB_any _ _ j.body HX.out.job.body HN.out.2.2).mono ?_
      rintro e x8 ⟨u8, rfl, ho8, hk⟩
      have HO := Lib.hid (show JOwnB x8 g j u8 from Env.ownsRow_lower3 ho8 (by rw [← HB.out]; exact HX.out.keep.size))
      obtain ⟨p8, c8, rfl, -, -⟩ := ownsRow_form ho8
      have HX := Lib.hid (HX.out.keeps hk)
      have HT := Lib.hid (HT.out.keeps hk)
      have HS := Lib.hid (HS.out.keeps hk)
      have hb := hHeld.then hk
      rw [List.length_map] at HO ⊢
      have HZ := Lib.hid (ClZ.mk HX.out.y HT.out HS.out HO.out)
      clear hk ho8 HX HT HS HO
      go_wp2_with fail
      refine bkm hK hb ?_
      clear hK K hHeld
      have hHeld : Mods (· = g) w1 x8 := hb
      clear hb
      refine rd1 10 (fun K hK => ?_)
      obtain ⟨hx, hz⟩ := HZ.out.at_ (o := 4) (v := vt) rfl
      go_simp
      have hb := hHeld.setCell (p := ⟨g, 4, none⟩) (fun _ => rfl) (.slice p2 j.tos.length c2)
      have HZ := Lib.hid (HZ.out.set HG.out 4 (.slice p2 j.tos.length c2))
      clear hx hz
      generalize World.setCell x8 _ _ = xa at *
      refine bkm hK hb ?_
      clear hK K hHeld
      have hHeld : Mods (· = g) w1 xa := hb
      clear hb
      refine tq 11 13 ?_
      refine rd1 12 (fun K hK => ?_)
      obtain ⟨hx, hz⟩ := HZ.out.at_ (o := 5) (v := vs) rfl
      go_simp
      have hb := hHeld.setCell (p := ⟨g, 5, none⟩) (fun _ => rfl) (.slice p5 j.st.length c5)
      have HZ := Lib.hid (HZ.out.set HG.out 5 (.slice p5 j.st.length c5))
      clear hx hz
      generalize World.setCell xa _ _ = xb at *
      refine bkm hK hb ?_
      clear hK K hHeld
      have hHeld : Mods (· = g) w1 xb := hb
      clear hb
      refine tq 13 14 ?_
      refine rd1 14 (fun K hK => ?_)
      obtain ⟨hx, hz⟩ := HZ.out.at_ (o := 6) (v := vb) rfl
      go_simp
      have hb := hHeld.setCell (p := ⟨g, 6, none⟩) (fun _ => rfl) (.slice p8 j.body.length c8)
      have HZ := Lib.hid (HZ.out.set HG.out 6 (.slice p8 j.body.length c8))
      clear hx hz
      generalize World.setCell xb _ _ = xc at *
      refine bkm hK hb ?_
      clear hK K hHeld
      have hHeld : Mods (· = g) w1 xc := hb
      clear hb
      refine wpAnyH_done (by kernel_rfl) ?_ _
      refine NoPanic.normal ?_
      go_wp2_with fail
      go_meet
      exact ⟨_, _, _, _, _, _, HZ⟩
     refine AllReadyH.cons (o := _) rfl (fun K hK => ?_) ?_
     ·have hx : World.cell? x2 ⟨g, 6, none⟩ = some vb := by rw [HX.out.blk.cell]; rfl
      go_simp
      clear hx
      have hb := hHeld
      refine bkm hK hb ?_
      clear hK K hHeld
      have hHeld : Mods (· = g) w1 x2 := hb
      clear hb
      refine tq 9 12 ?_
      refine rd1 5 (fun K hK => ?_)
      go_simp
      refine (cloneS_any _ _ j.st HX.out.job.st HN.out.2.1).mono ?_
      rintro e x5 ⟨u5, rfl, ho5, hk⟩
      have HS := Lib.hid (show JOwnS x5 g j u5 from Env.ownsRow_lower3 ho5 (by rw [← HB.out]; exact HX.out.keep.size))
      obtain ⟨p5, c5, rfl, -, -⟩ := ownsRow_form ho5
      have HX := Lib.hid (HX.out.keeps hk)
      have HT := Lib.hid (HT.out.keeps hk)
      have hb := hHeld.then hk
      clear hk ho5
      go_wp2_with fail
      refine bkm hK hb ?_
      clear hK K hHeld
      have hHeld : Mods (· = g) w1 x5 := hb
      clear hb
      refine rd1 8 (fun K hK => ?_)
      go_simp
      refine (cloneB_any _ _ j.body HX.out.job.body HN.out.2.2).mono ?_
      rintro e x8 ⟨u8, rfl, ho8, hk⟩
      have HO := Lib.hid (show JOwnB x8 g j u8 from Env.ownsRow_lower3 ho8 (by rw [← HB.out]; exact HX.out.keep.size))
      obtain ⟨p8, c8, rfl, -, -⟩ := ownsRow_form ho8
      have HX := Lib.hid (HX.out.keeps hk)
      have HT := Lib.hid (HT.out.keeps hk)
      have HS := Lib.hid (HS.out.keeps hk)
      have hb := hHeld.then hk
      rw [List.length_map] at HO ⊢
      have HZ := Lib.hid (ClZ.mk HX.out.y HT.out HS.out HO.out)
      clear hk ho8 HX HT HS HO
      go_wp2_with fail
      refine bkm hK hb ?_
      clear hK K hHeld
      have hHeld : Mods (· = g) w1 x8 := hb
      clear hb
      refine rd1 10 (fun K hK => ?_)
      obtain ⟨hx, hz⟩ := HZ.out.at_ (o := 4) (v := vt) rfl
      go_simp
      have hb := hHeld.setCell (p := ⟨g, 4, none⟩) (fun _ => rfl) (.slice p2 j.tos.length c2)
      have HZ := Lib.hid (HZ.out.set HG.out 4 (.slice p2 j.tos.length c2))
      clear hx hz
      generalize World.setCell x8 _ _ = xa at *
      refine bkm hK hb ?_
      clear hK K hHeld
      have hHeld : Mods (· = g) w1 xa := hb
      clear hb
      refine tq 11 13 ?_
      refine rd1 12 (fun K hK => ?_)
      obtain ⟨hx, hz⟩ := HZ.out.at_ (o := 5) (v := vs) rfl
      go_simp
      have hb := hHeld.setCell (p := ⟨g, 5, none⟩) (fun _ => rfl) (.slice p5 j.st.length c5)
      have HZ := Lib.hid (HZ.out.set HG.out 5 (.slice p5 j.st.length c5))
      clear hx hz
      generalize World.setCell xa _ _ = xb at *
      refine bkm hK hb ?_
      clear hK K hHeld
      have hHeld : Mods (· = g) w1 xb := hb
      clear hb
      refine tq 13 14 ?_
      refine rd1 14 (fun K hK => ?_)
      obtain ⟨hx, hz⟩ := HZ.out.at_ (o := 6) (v := vb) rfl
      go_simp
      have hb := hHeld.setCell (p := ⟨g, 6, none⟩) (fun _ => rfl) (.slice p8 j.body.length c8)
      have HZ := Lib.hid (HZ.out.set HG.out 6 (.slice p8 j.body.length c8))
      clear hx hz
      generalize World.setCell xb _ _ = xc at *
      refine bkm hK hb ?_
      clear hK K hHeld
      have hHeld : Mods (· = g) w1 xc := hb
      clear hb
      refine wpAnyH_done (by kernel_rfl) ?_ _
      refine NoPanic.normal ?_
      go_wp2_with fail
      go_meet
      exact ⟨_, _, _, _, _, _, HZ⟩
     exact AllReadyH.nil
    refine AllReadyH.cons (o := _) rfl (fun K hK => ?_) ?_
    ·have hx : World.cell? xs ⟨g, 6, none⟩ = some vb := by rw [HX.out.blk.cell]; rfl
     go_simp
     clear hx
     have hb := hHeld
     refine bkm hK hb ?_
     clear hK K hHeld
     have hHeld : Mods (· = g) w1 xs := hb
     clear hb
     refine rd1 2 (fun K hK => ?_)
     go_simp
     refine (cloneT_any _ _ j.tos HX.out.job.tos HN.out.1).mono ?_
     rintro e x2 ⟨u2, rfl, ho2, hk⟩
     have HT := Lib.hid (show JOwnT x2 g j u2 from Env.ownsRow_lower3 ho2 (by rw [← HB.out]; exact HX.out.keep.size))
     obtain ⟨p2, c2, rfl, -, -⟩ := ownsRow_form ho2
     have HX := Lib.hid (HX.out.keeps hk)
     have hb := hHeld.then hk
     clear hk ho2
     go_wp2_with fail
     refine bkm hK hb ?_
     clear hK K hHeld
     have hHeld : Mods (· = g) w1 x2 := hb
     clear hb
     refine tq 9 12 ?_
     refine rd1 5 (fun K hK => ?_)
     go_simp
     refine (cloneS_any _ _ j.st HX.out.job.st HN.out.2.1).mono ?_
     rintro e x5 ⟨u5, rfl, ho5, hk⟩
     have HS := Lib.hid (show JOwnS x5 g j u5 from Env.ownsRow_lower3 ho5 (by rw [← HB.out]; exact HX.out.keep.size))
     obtain ⟨p5, c5, rfl, -, -⟩ := ownsRow_form ho5
     have HX := Lib.hid (HX.out.keeps hk)
     have HT := Lib.hid (HT.out.keeps hk)
     have hb := hHeld.then hk
     clear hk ho5
     go_wp2_with fail
     refine bkm hK hb ?_
     clear hK K hHeld
     have hHeld : Mods (· = g) w1 x5 := hb
     clear hb
     refine rd1 8 (fun K hK => ?_)
     go_simp
     refine (cloneB_any _ _ j.body HX.out.job.body HN.out.2.2).mono ?_
     rintro e x8 ⟨u8, rfl, ho8, hk⟩
     have HO := Lib.hid (show JOwnB x8 g j u8 from Env.ownsRow_lower3 ho8 (by rw [← HB.out]; exact HX.out.keep.size))
     obtain ⟨p8, c8, rfl, -, -⟩ := ownsRow_form ho8
     have HX := Lib.hid (HX.out.keeps hk)
     have HT := Lib.hid (HT.out.keeps hk)
     have HS := Lib.hid (HS.out.keeps hk)
     have hb := hHeld.then hk
     rw [List.length_map] at HO ⊢
     have HZ := Lib.hid (ClZ.mk HX.out.y HT.out HS.out HO.out)
     clear hk ho8 HX HT HS HO
     go_wp2_with fail
     refine bkm hK hb ?_
     clear hK K hHeld
     have hHeld : Mods (· = g) w1 x8 := hb
     clear hb
     refine rd1 10 (fun K hK => ?_)
     obtain ⟨hx, hz⟩ := HZ.out.at_ (o := 4) (v := vt) rfl
     go_simp
     have hb := hHeld.setCell (p := ⟨g, 4, none⟩) (fun _ => rfl) (.slice p2 j.tos.length c2)
     have HZ := Lib.hid (HZ.out.set HG.out 4 (.slice p2 j.tos.length c2))
     clear hx hz
     generalize World.setCell x8 _ _ = xa at *
     refine bkm hK hb ?_
     clear hK K hHeld
     have hHeld : Mods (· = g) w1 xa := hb
     clear hb
     refine tq 11 13 ?_
     refine rd1 12 (fun K hK => ?_)
     obtain ⟨hx, hz⟩ := HZ.out.at_ (o := 5) (v := vs) rfl
     go_simp
     have hb := hHeld.setCell (p := ⟨g, 5, none⟩) (fun _ => rfl) (.slice p5 j.st.length c5)
     have HZ := Lib.hid (HZ.out.set HG.out 5 (.slice p5 j.st.length c5))
     clear hx hz
     generalize World.setCell xa _ _ = xb at *
     refine bkm hK hb ?_
     clear hK K hHeld
     have hHeld : Mods (· = g) w1 xb := hb
     clear hb
     refine tq 13 14 ?_
     refine rd1 14 (fun K hK => ?_)
     obtain ⟨hx, hz⟩ := HZ.out.at_ (o := 6) (v := vb) rfl
     go_simp
     have hb := hHeld.setCell (p := ⟨g, 6, none⟩) (fun _ => rfl) (.slice p8 j.body.length c8)
     have HZ := Lib.hid (HZ.out.set HG.out 6 (.slice p8 j.body.length c8))
     clear hx hz
     generalize World.setCell xb _ _ = xc at *
     refine bkm hK hb ?_
     clear hK K hHeld
     have hHeld : Mods (· = g) w1 xc := hb
     clear hb
     refine wpAnyH_done (by kernel_rfl) ?_ _
     refine NoPanic.normal ?_
     go_wp2_with fail
     go_meet
     exact ⟨_, _, _, _, _, _, HZ⟩
    exact AllReadyH.nil
   refine AllReadyH.cons (o := _) rfl (fun K hK => ?_) ?_
   ·have hx : World.cell? xs ⟨g, 6, none⟩ = some vb := by rw [HX.out.blk.cell]; rfl
    go_simp
    clear hx
    have hb := hHeld
    refine bkm hK hb ?_
    clear hK K hHeld
    have hHeld : Mods (· = g) w1 xs := hb
    clear hb
    refine rd1 1 (fun K hK => ?_)
    have hx : World.cell? xs ⟨g, 4, none⟩ = some vt := by rw [HX.out.blk.cell]; rfl
    go_simp
    clear hx
    have hb := hHeld
    refine bkm hK hb ?_
    clear hK K hHeld
    have hHeld : Mods (· = g) w1 xs := hb
    clear hb
    refine rd1 2 (fun K hK => ?_)
    go_simp
    refine (cloneT_any _ _ j.tos HX.out.job.tos HN.out.1).mono ?_
    rintro e x2 ⟨u2, rfl, ho2, hk⟩
    have HT := Lib.hid (show JOwnT x2 g j u2 from Env.ownsRow_lower3 ho2 (by rw [← HB.out]; exact HX.out.keep.size))
    obtain ⟨p2, c2, rfl, -, -⟩ := ownsRow_form ho2
    have HX := Lib.hid (HX.out.keeps hk)
    have hb := hHeld.then hk
    clear hk ho2
    go_wp2_with fail
    refine bkm hK hb ?_
    clear hK K hHeld
    have hHeld : Mods (· = g) w1 x2 := hb
    clear hb
    refine tq 9 12 ?_
    refine rd1 5 (fun K hK => ?_)
    go_simp
    refine (cloneS_any _ _ j.st HX.out.job.st HN.out.2.1).mono ?_
    rintro e x5 ⟨u5, rfl, ho5, hk⟩
    have HS := Lib.hid (show JOwnS x5 g j u5 from Env.ownsRow_lower3 ho5 (by rw [← HB.out]; exact HX.out.keep.size))
    obtain ⟨p5, c5, rfl, -, -⟩ := ownsRow_form ho5
    have HX := Lib.hid (HX.out.keeps hk)
    have HT := Lib.hid (HT.out.keeps hk)
    have hb := hHeld.then hk
    clear hk ho5
    go_wp2_with fail
    refine bkm hK hb ?_
    clear hK K hHeld
    have hHeld : Mods (· = g) w1 x5 := hb
    clear hb
    refine rd1 8 (fun K hK => ?_)
    go_simp
    refine (cloneB_any _ _ j.body HX.out.job.body HN.out.2.2).mono ?_
    rintro e x8 ⟨u8, rfl, ho8, hk⟩
    have HO := Lib.hid (show JOwnB x8 g j u8 from Env.ownsRow_lower3 ho8 (by rw [← HB.out]; exact HX.out.keep.size))
    obtain ⟨p8, c8, rfl, -, -⟩ := ownsRow_form ho8
    have HX := Lib.hid (HX.out.keeps hk)
    have HT := Lib.hid (HT.out.keeps hk)
    have HS := Lib.hid (HS.out.keeps hk)
    have hb := hHeld.then hk
    rw [List.length_map] at HO ⊢
    have HZ := Lib.hid (ClZ.mk HX.out.y HT.out HS.out HO.out)
    clear hk ho8 HX HT HS HO
    go_wp2_with fail
    refine bkm hK hb ?_
    clear hK K hHeld
    have hHeld : Mods (· = g) w1 x8 := hb
    clear hb
    refine rd1 10 (fun K hK => ?_)
    obtain ⟨hx, hz⟩ := HZ.out.at_ (o := 4) (v := vt) rfl
    go_simp
    have hb := hHeld.setCell (p := ⟨g, 4, none⟩) (fun _ => rfl) (.slice p2 j.tos.length c2)
    have HZ := Lib.hid (HZ.out.set HG.out 4 (.slice p2 j.tos.length c2))
    clear hx hz
    generalize World.setCell x8 _ _ = xa at *
    refine bkm hK hb ?_
    clear hK K hHeld
    have hHeld : Mods (· = g) w1 xa := hb
    clear hb
    refine tq 11 13 ?_
    refine rd1 12 (fun K hK => ?_)
    obtain ⟨hx, hz⟩ := HZ.out.at_ (o := 5) (v := vs) rfl
    go_simp
    have hb := hHeld.setCell (p := ⟨g, 5, none⟩) (fun _ => rfl) (.slice p5 j.st.length c5)
    have HZ := Lib.hid (HZ.out.set HG.out 5 (.slice p5 j.st.length c5))
    clear hx hz
    generalize World.setCell xa _ _ = xb at *
    refine bkm hK hb ?_
    clear hK K hHeld
    have hHeld : Mods (· = g) w1 xb := hb
    clear hb
    refine tq 13 14 ?_
    refine rd1 14 (fun K hK => ?_)
    obtain ⟨hx, hz⟩ := HZ.out.at_ (o := 6) (v := vb) rfl
    go_simp
    have hb := hHeld.setCell (p := ⟨g, 6, none⟩) (fun _ => rfl) (.slice p8 j.body.length c8)
    have HZ := Lib.hid (HZ.out.set HG.out 6 (.slice p8 j.body.length c8))
    clear hx hz
    generalize World.setCell xb _ _ = xc at *
    refine bkm hK hb ?_
    clear hK K hHeld
    have hHeld : Mods (· = g) w1 xc := hb
    clear hb
    refine wpAnyH_done (by kernel_rfl) ?_ _
    refine NoPanic.normal ?_
    go_wp2_with fail
    go_meet
    exact ⟨_, _, _, _, _, _, HZ⟩
   exact AllReadyH.nil
  refine AllReadyH.cons (o := _) rfl (fun K hK => ?_) ?_
  ·have hx : World.cell? xs ⟨g, 6, none⟩ = some vb := by rw [HX.out.blk.cell]; rfl
   go_simp
   clear hx
   have hb := hHeld
   refine bkm hK hb ?_
   clear hK K hHeld
   have hHeld : Mods (· = g) w1 xs := hb
   clear hb
   refine wpAnyH_ready (rs := [1, 4]) (by kernel_rfl) (by simp) ?_
   refine AllReadyH.cons (o := _) rfl (fun K hK => ?_) ?_
   ·have hx : World.cell? xs ⟨g, 4, none⟩ = some vt := by rw [HX.out.blk.cell]; rfl
    go_simp
    clear hx
    have hb := hHeld
    refine bkm hK hb ?_
    clear hK K hHeld
    have hHeld : Mods (· = g) w1 xs := hb
    clear hb
    refine wpAnyH_ready (rs := [2, 4]) (by kernel_rfl) (by simp) ?_
    refine AllReadyH.cons (o := _) rfl (fun K hK => ?_) ?_
    ·go_simp
     refine (cloneT_any _ _ j.tos HX.out.job.tos HN.out.1).mono ?_
     rintro e x2 ⟨u2, rfl, ho2, hk⟩
     have HT := Lib.hid (show JOwnT x2 g j u2 from Env.ownsRow_lower3 ho2 (by rw [← HB.out]; exact HX.out.keep.size))
     obtain ⟨p2, c2, rfl, -, -⟩ := ownsRow_form ho2
     have HX := Lib.hid (HX.out.keeps hk)
     have hb := hHeld.then hk
     clear hk ho2
     go_wp2_with fail
     refine bkm hK hb ?_
     clear hK K hHeld
     have hHeld : Mods (· = g) w1 x2 := hb
     clear hb
     refine rd1 4 (fun K hK => ?_)
     have hx : World.cell? x2 ⟨g, 5, none⟩ = some vs := by rw [HX.out.blk.cell]; rfl
     go_simp
     clear hx
     have hb := hHeld
     refine bkm hK hb ?_
     clear hK K hHeld
     have hHeld : Mods (· = g) w1 x2 := hb
     clear hb
     refine tq 9 12 ?_
     refine rd1 5 (fun K hK => ?_)
     go_simp
     refine (cloneS_any _ _ j.st HX.out.job.st HN.out.2.1).mono ?_
     rintro e x5 ⟨u5, rfl, ho5, hk⟩
     have HS := Lib.hid (show JOwnS x5 g j u5 from Env.ownsRow_lower3 ho5 (by rw [← HB.out]; exact HX.out.keep.size))
     obtain ⟨p5, c5, rfl, -, -⟩ := ownsRow_form ho5
     have HX := Lib.hid (HX.out.keeps hk)
     have HT := Lib.hid (HT.out.keeps hk)
     have hb := hHeld.then hk
     clear hk ho5
     go_wp2_with fail
     refine bkm hK hb ?_
     clear hK K hHeld
     have hHeld : Mods (· = g) w1 x5 := hb
     clear hb
     refine rd1 8 (fun K hK => ?_)
     go_simp
     refine (cloneB_any _ _ j.body HX.out.job.body HN.out.2.2).mono ?_
     rintro e x8 ⟨u8, rfl, ho8, hk⟩
     have HO := Lib.hid (show JOwnB x8 g j u8 from Env.ownsRow_lower3 ho8 (by rw [← HB.out]; exact HX.out.keep.size))
     obtain ⟨p8, c8, rfl, -, -⟩ := ownsRow_form ho8
     have HX := Lib.hid (HX.out.keeps hk)
     have HT := Lib.hid (HT.out.keeps hk)
     have HS := Lib.hid (HS.out.keeps hk)
     have hb := hHeld.then hk
     rw [List.length_map] at HO ⊢
     have HZ := Lib.hid (ClZ.mk HX.out.y HT.out HS.out HO.out)
     clear hk ho8 HX HT HS HO
     go_wp2_with fail
     refine bkm hK hb ?_
     clear hK K hHeld
     have hHeld : Mods (· = g) w1 x8 := hb
     clear hb
     refine rd1 10 (fun K hK => ?_)
     obtain ⟨hx, hz⟩ := HZ.out.at_ (o := 4) (v := vt) rfl
     go_simp
     have hb := hHeld.setCell (p := ⟨g, 4, none⟩) (fun _ => rfl) (.slice p2 j.tos.length c2)
     have HZ := Lib.hid (HZ.out.set HG.out 4 (.slice p2 j.tos.length c2))
     clear hx hz
     generalize World.setCell x8 _ _ = xa at *
     refine bkm hK hb ?_
     clear hK K hHeld
     have hHeld : Mods (· = g) w1 xa := hb
     clear hb
     refine tq 11 13 ?_
     refine rd1 12 (fun K hK => ?_)
     obtain ⟨hx, hz⟩ := HZ.out.at_ (o := 5) (v := vs) rfl
     go_simp
     have hb := hHeld.setCell (p := ⟨g, 5, none⟩) (fun _ => rfl) (.slice p5 j.st.length c5)
     have HZ := Lib.hid (HZ.out.set HG.out 5 (.slice p5 j.st.length c5))
     clear hx hz
     generalize World.setCell xa _ _ = xb at *
     refine bkm hK hb ?_
     clear hK K hHeld
     have hHeld : Mods (· = g) w1 xb := hb
     clear hb
     refine tq 13 14 ?_
     refine rd1 14 (fun K hK => ?_)
     obtain ⟨hx, hz⟩ := HZ.out.at_ (o := 6) (v := vb) rfl
     go_simp
     have hb := hHeld.setCell (p := ⟨g, 6, none⟩) (fun _ => rfl) (.slice p8 j.body.length c8)
     have HZ := Lib.hid (HZ.out.set HG.out 6 (.slice p8 j.body.length c8))
     clear hx hz
     generalize World.setCell xb _ _ = xc at *
     refine bkm hK hb ?_
     clear hK K hHeld
     have hHeld : Mods (· = g) w1 xc := hb
     clear hb
     refine wpAnyH_done (by kernel_rfl) ?_ _
     refine NoPanic.normal ?_
     go_wp2_with fail
     go_meet
     exact ⟨_, _, _, _, _, _, HZ⟩
    refine AllReadyH.cons (o := _) rfl (fun K hK => ?_) ?_
    ·have hx : World.cell? xs ⟨g, 5, none⟩ = some vs := by rw [HX.out.blk.cell]; rfl
     go_simp
     clear hx
     have hb := hHeld
     refine bkm hK hb ?_
     clear hK K hHeld
     have hHeld : Mods (· = g) w1 xs := hb
     clear hb
     refine rd1 2 (fun K hK => ?_)
     go_simp
     refine (cloneT_any _ _ j.tos HX.out.job.tos HN.out.1).mono ?_
     rintro e x2 ⟨u2, rfl, ho2, hk⟩
     have HT := Lib.hid (show JOwnT x2 g j u2 from Env.ownsRow_lower3 ho2 (by rw [← HB.out]; exact HX.out.keep.size))
     obtain ⟨p2, c2, rfl, -, -⟩ := ownsRow_form ho2
     have HX := Lib.hid (HX.out.keeps hk)
     have hb := hHeld.then hk
     clear hk ho2
     go_wp2_with fail
     refine bkm hK hb ?_
     clear hK K hHeld
     have hHeld : Mods (· = g) w1 x2 := hb
     clear hb
     refine tq 9 12 ?_
     refine rd1 5 (fun K hK => ?_)
     go_simp
     refine (cloneS_any _ _ j.st HX.out.job.st HN.out.2.1).mono ?_
     rintro e x5 ⟨u5, rfl, ho5, hk⟩
     have HS := Lib.hid (show JOwnS x5 g j u5 from Env.ownsRow_lower3 ho5 (by rw [← HB.out]; exact HX.out.keep.size))
     obtain ⟨p5, c5, rfl, -, -⟩ := ownsRow_form ho5
     have HX := Lib.hid (HX.out.keeps hk)
     have HT := Lib.hid (HT.out.keeps hk)
     have hb := hHeld.then hk
     clear hk ho5
     go_wp2_with fail
     refine bkm hK hb ?_
     clear hK K hHeld
     have hHeld : Mods (· = g) w1 x5 := hb
     clear hb
     refine rd1 8 (fun K hK => ?_)
     go_simp
     refine (cloneB_any _ _ j.body HX.out.job.body HN.out.2.2).mono ?_
     rintro e x8 ⟨u8, rfl, ho8, hk⟩
     have HO := Lib.hid (show JOwnB x8 g j u8 from Env.ownsRow_lower3 ho8 (by rw [← HB.out]; exact HX.out.keep.size))
     obtain ⟨p8, c8, rfl, -, -⟩ := ownsRow_form ho8
     have HX := Lib.hid (HX.out.keeps hk)
     have HT := Lib.hid (HT.out.keeps hk)
     have HS := Lib.hid (HS.out.keeps hk)
     have hb := hHeld.then hk
     rw [List.length_map] at HO ⊢
     have HZ := Lib.hid (ClZ.mk HX.out.y HT.out HS.out HO.out)
     clear hk ho8 HX HT HS HO
     go_wp2_with fail
     refine bkm hK hb ?_
     clear hK K hHeld
     have hHeld : Mods (· = g) w1 x8 := hb
     clear hb
     refine rd1 10 (fun K hK => ?_)
     obtain ⟨hx, hz⟩ := HZ.out.at_ (o := 4) (v := vt) rfl
     go_simp
     have hb := hHeld.setCell (p := ⟨g, 4, none⟩) (fun _ => rfl) (.slice p2 j.tos.length c2)
     have HZ := Lib.hid (HZ.out.set HG.out 4 (.slice p2 j.tos.length c2))
     clear hx hz
     generalize World.setCell x8 _ _ = xa at *
     refine bkm hK hb ?_
     clear hK K hHeld
     have hHeld : Mods (· = g) w1 xa := hb
     clear hb
     refine tq 11 13 ?_
     refine rd1 12 (fun K hK => ?_)
     obtain ⟨hx, hz⟩ := HZ.out.at_ (o := 5) (v := vs) rfl
     go_simp
     have hb := hHeld.setCell (p := ⟨g, 5, none⟩) (fun _ => rfl) (.slice p5 j.st.length c5)
     have HZ := Lib.hid (HZ.out.set HG.out 5 (.slice p5 j.st.length c5))
     clear hx hz
     generalize World.setCell xa _ _ = xb at *
     refine bkm hK hb ?_
     clear hK K hHeld
     have hHeld : Mods (· = g) w1 xb := hb
     clear hb
     refine tq 13 14 ?_
     refine rd1 14 (fun K hK => ?_)
     obtain ⟨hx, hz⟩ := HZ.out.at_ (o := 6) (v := vb) rfl
     go_simp
     have hb := hHeld.setCell (p := ⟨g, 6, none⟩) (fun _ => rfl) (.slice p8 j.body.length c8)
     have HZ := Lib.hid (HZ.out.set HG.out 6 (.slice p8 j.body.length c8))
     clear hx hz
     generalize World.setCell xb _ _ = xc at *
     refine bkm hK hb ?_
     clear hK K hHeld
     have hHeld : Mods (· = g) w1 xc := hb
     clear hb
     refine wpAnyH_done (by kernel_rfl) ?_ _
     refine NoPanic.normal ?_
     go_wp2_with fail
     go_meet
     exact ⟨_, _, _, _, _, _, HZ⟩
    exact AllReadyH.nil
   refine AllReadyH.cons (o := _) rfl (fun K hK => ?_) ?_
   ·have hx : World.cell? xs ⟨g, 5, none⟩ = some vs := by rw [HX.out.blk.cell]; rfl
    go_simp
    clear hx
    have hb := hHeld
    refine bkm hK hb ?_
    clear hK K hHeld
    have hHeld : Mods (· = g) w1 xs := hb
    clear hb
    refine rd1 1 (fun K hK => ?_)
    have hx : World.cell? xs ⟨g, 4, none⟩ = some vt := by rw [HX.out.blk.cell]; rfl
    go_simp
    clear hx
    have hb := hHeld
    refine bkm hK hb ?_
    clear hK K hHeld
    have hHeld : Mods (· = g) w1 xs := hb
    clear hb
    refine rd1 2 (fun K hK => ?_)
    go_simp
    refine (cloneT_any _ _ j.tos HX.out.job.tos HN.out.1).mono ?_
    rintro e x2 ⟨u2, rfl, ho2, hk⟩
    have HT := Lib.hid (show JOwnT x2 g j u2 from Env.ownsRow_lower3 ho2 (by rw [← HB.out]; exact HX.out.keep.size))
    obtain ⟨p2, c2, rfl, -, -⟩ := ownsRow_form ho2
    have HX := Lib.hid (HX.out.keeps hk)
    have hb := hHeld.then hk
    clear hk ho2
    go_wp2_with fail
    refine bkm hK hb ?_
    clear hK K hHeld
    have hHeld : Mods (· = g) w1 x2 := hb
    clear hb
    refine tq 9 12 ?_
    refine rd1 5 (fun K hK => ?_)
    go_simp
    refine (cloneS_any _ _ j.st HX.out.job.st HN.out.2.1).mono ?_
    rintro e x5 ⟨u5, rfl, ho5, hk⟩
    have HS := Lib.hid (show JOwnS x5 g j u5 from Env.ownsRow_lower3 ho5 (by rw [← HB.out]; exact HX.out.keep.size))
    obtain ⟨p5, c5, rfl, -, -⟩ := ownsRow_form ho5
    have HX := Lib.hid (HX.out.keeps hk)
    have HT := Lib.hid (HT.out.keeps hk)
    have hb := hHeld.then hk
    clear hk ho5
    go_wp2_with fail
    refine bkm hK hb ?_
    clear hK K hHeld
    have hHeld : Mods (· = g) w1 x5 := hb
    clear hb
    refine rd1 8 (fun K hK => ?_)
    go_simp
    refine (cloneB_any _ _ j.body HX.out.job.body HN.out.2.2).mono ?_
    rintro e x8 ⟨u8, rfl, ho8, hk⟩
    have HO := Lib.hid (show JOwnB x8 g j u8 from Env.ownsRow_lower3 ho8 (by rw [← HB.out]; exact HX.out.keep.size))
    obtain ⟨p8, c8, rfl, -, -⟩ := ownsRow_form ho8
    have HX := Lib.hid (HX.out.keeps hk)
    have HT := Lib.hid (HT.out.keeps hk)
    have HS := Lib.hid (HS.out.keeps hk)
    have hb := hHeld.then hk
    rw [List.length_map] at HO ⊢
    have HZ := Lib.hid (ClZ.mk HX.out.y HT.out HS.out HO.out)
    clear hk ho8 HX HT HS HO
    go_wp2_with fail
    refine bkm hK hb ?_
    clear hK K hHeld
    have hHeld : Mods (· = g) w1 x8 := hb
    clear hb
    refine rd1 10 (fun K hK => ?_)
    obtain ⟨hx, hz⟩ := HZ.out.at_ (o := 4) (v := vt) rfl
    go_simp
    have hb := hHeld.setCell (p := ⟨g, 4, none⟩) (fun _ => rfl) (.slice p2 j.tos.length c2)
    have HZ := Lib.hid (HZ.out.set HG.out 4 (.slice p2 j.tos.length c2))
    clear hx hz
    generalize World.setCell x8 _ _ = xa at *
    refine bkm hK hb ?_
    clear hK K hHeld
    have hHeld : Mods (· = g) w1 xa := hb
    clear hb
    refine tq 11 13 ?_
    refine rd1 12 (fun K hK => ?_)
    obtain ⟨hx, hz⟩ := HZ.out.at_ (o := 5) (v := vs) rfl
    go_simp
    have hb := hHeld.setCell (p := ⟨g, 5, none⟩) (fun _ => rfl) (.slice p5 j.st.length c5)
    have HZ := Lib.hid (HZ.out.set HG.out 5 (.slice p5 j.st.length c5))
    clear hx hz
    generalize World.setCell xa _ _ = xb at *
    refine bkm hK hb ?_
    clear hK K hHeld
    have hHeld : Mods (· = g) w1 xb := hb
    clear hb
    refine tq 13 14 ?_
    refine rd1 14 (fun K hK => ?_)
    obtain ⟨hx, hz⟩ := HZ.out.at_ (o := 6) (v := vb) rfl
    go_simp
    have hb := hHeld.setCell (p := ⟨g, 6, none⟩) (fun _ => rfl) (.slice p8 j.body.length c8)
    have HZ := Lib.hid (HZ.out.set HG.out 6 (.slice p8 j.body.length c8))
    clear hx hz
    generalize World.setCell xb _ _ = xc at *
    refine bkm hK hb ?_
    clear hK K hHeld
    have hHeld : Mods (· = g) w1 xc := hb
    clear hb
    refine wpAnyH_done (by kernel_rfl) ?_ _
    refine NoPanic.normal ?_
    go_wp2_with fail
    go_meet
    exact ⟨_, _, _, _, _, _, HZ⟩
   exact AllReadyH.nil
  exact AllReadyH.nil
 case rest =>
 obtain ⟨p2, c2, p5, c5, p8, c8, HZ⟩ := hcut
 clear HX
 go_wp2_with (first | refine wpList_ld rfl jobM HZ.out.y.blk _ rfl rfl ?_ | (refine wpList_st (ds := jobA j (.slice p2 j.tos.length c2) (.slice p5 j.st.length c5) (.slice p8 j.body.length c8)) rfl jobM HZ.out.y.res rfl (by simp [Value.oneCell']) _ _ rfl rfl rfl rfl ?_; intro yF hBF hMF; have HF := Lib.hid (clone_end HZ.out hBF hMF HG.out.1 (Nat.le_succ_of_le HG.out.1)); clear hBF hMF HZ))
 exact bodyPost_ret (v := .agg (jobA j (.slice p2 j.tos.length c2) (.slice p5 j.st.length c5) (.slice p8 j.body.length c8))) (by simp [results, Tryz.results56, go_sem, HF.out.cells.1, HF.out.cells.2.1, HF.out.cells.2.2.1, HF.out.cells.2.2.2.1, HF.out.cells.2.2.2.2.1, HF.out.cells.2.2.2.2.2.1, HF.out.cells.2.2.2.2.2.2]) rfl ⟨_, _, _, rfl, HF.out.own, HF.out.keep⟩
end Que
end Go.Proofs.YtcleakjjefmmbaaGreat

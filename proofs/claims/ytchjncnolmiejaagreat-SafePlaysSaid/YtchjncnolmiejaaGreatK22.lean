/- Several texts in one: VdTurn, VdBorn, VdCreate. -/
import Derived.Test.YtchjncnolmiejaaGreatK21
/- A move is noted and given: turn. -/
namespace Go.Proofs.YtchjncnolmiejaaGreat
open Go.RowKit
namespace Vd
open Go.Maps
theorem mvok : ElemOkS Tryz.prog 80 123 3 32 := elemOkS (z := .agg #[.int .i64 0, .string (bstr []), .bool false]) Tryz.underlying80 (by kernel_rfl) rfl
theorem step_appF {P : Program} {w : World} {ops : Array Oper} {o : Oper} {a : Act} {K : Act → World → Prop} {Q : Exit → Act → World → Prop} {E : Prop} {t e : TypeId} {size bytes base : Nat} (he : ElemOkS P t e size bytes) (hsz : 0 < size) (hgd : o.guard = none) (s x : Operand)
    (ho : o.op = .call { callee := .builtin .append, args := #[s, x], argTypes := #[t, t] })
    (v : Value) (n m c : Nat) (ad : Addr) (xs news : List Value) (hs : a.eval s = v) (hx : a.eval x = .slice (some ad) m c) (hown : w.ownsRow base e size v n xs) (hl : news.length = m * size) (hn : ∀ j u, news[j]? = some u → w.cell? (ad.add j) = some u) (h1 : ∀ u ∈ news, u.oneCell' = true)
    (hb : (n + m) * bytes ≤ 70368744177664) (hbytes : 0 < bytes) (hbase : base ≤ w.heap.size)
    (h : ∀ v' w', w'.ownsRow base e size v' (n + m) (xs ++ news) → w.grownBy w' v.ownBlock → (∀ x, v'.ownBlock = some x → v.ownBlock = some x ∨ w.heap.size ≤ x) → K (a.put o.dst v') w') :
    if Region.wanted o (yielded ops a.tmps) = true then Oper.wp P o a w K Q else E := by
  have hw : Region.wanted o (yielded ops a.tmps) = true := by simp [Region.wanted, hgd]
  rw [if_pos hw]
  have h63 : n + m ≤ 70368744177664 := Nat.le_trans (Nat.le_mul_of_pos_right _ hbytes) hb
  have hml : n + m ≤ maxLen := by unfold maxLen; omega
  obtain ⟨v', w', hr, h2, h3, h4⟩ := run_app (P := P) w o.type he hsz v n xs hown ad m c news hl hn h1 hml (by omega) hbase
  unfold Oper.wp execOp
  simp only [ho, resolve, invoke, builtin, Sem.run_bind, Sem.run_pure, Result.andThen_ok, List.map_toArray, List.map_cons, List.map_nil, hs, hx, hr]
  exact h v' w' h2 h3 h4
def turnD (d : Dsk) (m : Mv) : Dsk := { d with moves := d.moves ++ [m], seen := giveN d.seen m }
/-- the moves and the names seen are anew -/
theorem DiskIn.moved {w w' : World} {S : Nat → Prop} {g b1 b2 : Nat} {nv mv : Value} {nb : List NB} {d : Dsk} (h : DiskIn w S g b1 b2 nv mv nb d) {T : Nat → Prop} (hM : Mods T w w') (hT : ∀ y, T y → y = g ∨ mv.ownBlock = some y ∨ y = b1) {mv' : Value} {m : Mv}
    (hB : Blk w' g 82 (diskA (turnD d m) nv b1 b2 mv')) (hs : NamesAt w' b1 (giveN d.seen m).length (giveN d.seen m)) (hm : w'.ownsRow 0 123 3 mv' (d.moves.length + 1) ((d.moves ++ [m]).flatMap mvC))
    (hp : ∀ y, mv'.ownBlock = some y → mv.ownBlock = some y ∨ (w.heap.size ≤ y ∧ y < w'.heap.size)) (hf : Fit (turnD d m)) : DiskIn w' (More S w w') g b1 b2 nv mv' nb (turnD d m) := by
  have tg : Ty w g 82 := ⟨_, h.blk⟩
  have tT : ∀ y, T y → y = b1 ∨ Ty w y 82 ∨ Ty w y 123 := fun y hy => by
    rcases hT y hy with rfl | e | e
    · exact .inr (.inl tg)
    · exact .inr (.inr (owns_ty h.mvs e))
    · exact .inl e
  have out : ∀ {y : Nat} {t : TypeId}, Ty w y t → 82 ≠ t → 123 ≠ t → ¬ T y := fun hy n1 n2 ht => by
    rcases tT _ ht with e | e | e
    · exact names_ty h.seen hy e.symm
    · exact Ty.ne e hy n1 rfl
    · exact Ty.ne e hy n2 rfl
  have h2 : ¬ T b2 := fun ht => by
    rcases tT _ ht with e | e | e
    · exact h.d12 e.symm
    · exact names_ty h.sure e rfl
    · exact names_ty h.sure e rfl
  exact
    { blk := hB
      row := Frm.ownsRow_mods h.row hM (fun y hy => out (owns_ty h.row hy) (by decide) (by decide))
      len := h.len
      nod := fun i h1 h2 => (h.nod i h1 h2).mods hM (out ⟨_, (h.nod i h1 h2).blk⟩ (by decide) (by decide)) (fun y hy => out (owns_ty (h.nod i h1 h2).pats hy) (by decide) (by decide))
      sep := h.sep
      seen := hs
      sure := h.sure.mods hM h2
      mvs := by simpa [turnD] using hm
      d12 := h.d12
      sg := .inl h.sg
      s1 := .inl h.s1
      s2 := .inl h.s2
      sn := fun y hy => .inl (h.sn y hy)
      sm := fun y hy => (hp y hy).imp (h.sm y) id
      sb := fun p hp => ⟨.inl (h.sb p hp).1, fun y hy => .inl ((h.sb p hp).2 y hy)⟩
      fit := hf }
set_option maxRecDepth 100000 in
set_option maxHeartbeats 2000000 in
theorem turn_any (w : World) {S : Nat → Prop} {g : Nat} {d : Dsk} (h : DiskAt w S g d) (m : Mv) (hm : m.name.length ≤ 32) (hml : d.moves.length ≤ 1000000000) (hf : Fit (turnD d m)) : Calls Tryz.prog 119 #[.pointer (some ⟨g, 0, none⟩), .agg #[.int .i64 (m.node : Int), .string (bstr m.name), .bool m.made]] w fun e w' => e = .returned (.tuple #[]) ∧ DiskAt w' (More S w w') g (turnD d m) ∧ Mods S w w' := by
  obtain ⟨b1, b2, nv, mv, nb, h⟩ := h
  have HD := Lib.hid h
  have HG := Lib.hid h.blk
  have HV := Lib.hid h.mvs
  obtain ⟨-, -, -, -, c4, -⟩ := h.cells
  have hfz : w.frozen? ⟨g, 4, none⟩ = false := h.blk.frozen 4
  obtain ⟨po, cap, rfl, -, -⟩ := Frm.ownsRow_form h.mvs
  have HN1 := Lib.hid h.ng.2.2.2.1
  clear h
  go_enter Tryz.func119, Tryz.ntmps119
  go_upto_region 1 with fail
  generalize hW : World.alloc w _ = w1
  have HK1 := Lib.hid (show Keeps w w1 from by rw [← hW]; exact (Keeps.refl _).alloc _)
  have HM := Lib.hid (show Blk w1 w.heap.size 123 #[.int .i64 (m.node : Int), .string (bstr m.name), .bool m.made] from by rw [← hW]; exact Blk.new _ _ _ rfl)
  have HG1 := Lib.hid (HG.out.keeps HK1.out)
  have HV1 := Lib.hid (Frm.ownsRow_keeps HV.out HK1.out)
  have c4' : w1.cell? ⟨g, 4, none⟩ = some (Value.slice po d.moves.length cap) := by rw [HG1.out.cell]; rfl
  clear hW c4 hfz
  obtain ⟨q, hq⟩ : ∃ q, q = w.heap.size := ⟨_, rfl⟩
  rw [← hq] at HM ⊢
  have HQ := Lib.hid hq
  clear hq
  have HNQ : Hid ((Value.slice po d.moves.length cap).ownBlock ≠ some q) := Lib.hid (fun e => by
    have := (owns_ty HV.out e).lt
    have := HQ.out
    omega)
  have hm0 : w1.cell? ⟨q, 0, none⟩ = some (.int .i64 (m.node : Int)) := by rw [HM.out.cell]; rfl
  have hm1 : w1.cell? ⟨q, 1, none⟩ = some (.string (bstr m.name)) := by rw [HM.out.cell]; rfl
  have hm2 : w1.cell? ⟨q, 2, none⟩ = some (.bool m.made) := by rw [HM.out.cell]; rfl
  go_cut [] (fun wx => ∃ mv2, Hid (Blk wx g 82 (diskA d nv b1 b2 mv2) ∧ wx.ownsRow 0 123 3 mv2 (d.moves.length + 1) ((d.moves ++ [m]).flatMap mvC) ∧ Mods (fun y => y = g ∨ (Value.slice po d.moves.length cap).ownBlock = some y) w wx ∧ Blk wx q 123 #[.int .i64 (m.node : Int), .string (bstr m.name), .bool m.made] ∧ ∀ y, mv2.ownBlock = some y → (Value.slice po d.moves.length cap).ownBlock = some y ∨ (w.heap.size ≤ y ∧ y < wx.heap.size)))
  case first =>
    have HNG := Lib.hid (show q ≠ g from fun e => by have h1 := HM.out; have h2 := HG1.out; unfold Blk at h1 h2; rw [e, h2] at h1; simp at h1)
    have HS1 := Lib.hid HK1.out.size
    have HX := Lib.hid HG1.out.drew
    have HR := Lib.hid (Frm.ownsRow_keeps HV1.out (Keeps.refl w1).drew)
    have HMq := Lib.hid HM.out.drew
    clear c4' hm0 hm1 hm2
    refine wp_region_noPanic ?_
    refine wp_region_held_drew (S := fun w' => Mods (fun y => y = g ∨ (Value.slice po d.moves.length cap).ownBlock = some y) w1 w') (by kernel_rfl) ((Mods.refl (fun y => y = g ∨ (Value.slice po d.moves.length cap).ownBlock = some y) w1).drew) (fun _ => ?_)
    have hHeld : Mods (fun y => y = g ∨ (Value.slice po d.moves.length cap).ownBlock = some y) w1 (w1).drew := (Mods.refl (fun y => y = g ∨ (Value.slice po d.moves.length cap).ownBlock = some y) w1).drew
    generalize World.drew w1 = xs at *
    refine wpAnyH_take (i := 0) (v := ?vv1) (by rfl) (by kernel_rfl) (by kernel_rfl) (by kernel_rfl) (by intro _ _ _ h; exact h) (Or.inl ⟨by kernel_rfl, ?hy1⟩) (by assumption) ?rest1
    case hy1 =>
      intro w' hSw
      have hSw : Mods (fun y => y = g ∨ (Value.slice po d.moves.length cap).ownBlock = some y) w1 w' := hSw
      clear hSw
      go_simp
      try with_reducible rfl
    change wpAnyH _ _ _ _ _ _ _ (Act.put _ (some 4) _) _
    try simp only [Act.put, List.setIfInBounds_toArray, List.set_cons_zero, List.set_cons_succ]
    refine wpAnyH_take (i := 1) (v := ?vv2) (by rfl) (by kernel_rfl) (by kernel_rfl) (by kernel_rfl) (by intro _ _ _ h; exact h) (Or.inl ⟨by kernel_rfl, ?hy2⟩) (by assumption) ?rest2
    case hy2 =>
      intro w' hSw
      have hSw : Mods (fun y => y = g ∨ (Value.slice po d.moves.length cap).ownBlock = some y) w1 w' := hSw
      clear hSw
      go_simp
      try with_reducible rfl
    change wpAnyH _ _ _ _ _ _ _ (Act.put _ (some 5) _) _
    try simp only [Act.put, List.setIfInBounds_toArray, List.set_cons_zero, List.set_cons_succ]
    refine wpAnyH_take (i := 2) (v := ?vv3) (by rfl) (by kernel_rfl) (by kernel_rfl) (by kernel_rfl) (by intro _ _ _ h; exact h) (Or.inl ⟨by kernel_rfl, ?hy3⟩) (by assumption) ?rest3
    case hy3 =>
      intro w' hSw
      have hSw : Mods (fun y => y = g ∨ (Value.slice po d.moves.length cap).ownBlock = some y) w1 w' := hSw
      clear hSw
      go_simp
      try with_reducible rfl
    change wpAnyH _ _ _ _ _ _ _ (Act.put _ (some 6) _) _
    try simp only [Act.put, List.setIfInBounds_toArray, List.set_cons_zero, List.set_cons_succ]
    refine wpAnyH_take (i := 3) (v := ?vv4) (by rfl) (by kernel_rfl) (by kernel_rfl) (by kernel_rfl) (by intro _ _ _ h; exact h) (Or.inl ⟨by kernel_rfl, ?hy4⟩) (by assumption) ?rest4
    case hy4 =>
      intro w' hSw
      have hSw : Mods (fun y => y = g ∨ (Value.slice po d.moves.length cap).ownBlock = some y) w1 w' := hSw
      clear hSw
      go_simp
      try with_reducible rfl
    change wpAnyH _ _ _ _ _ _ _ (Act.put _ (some 7) _) _
    try simp only [Act.put, List.setIfInBounds_toArray, List.set_cons_zero, List.set_cons_succ]
    refine wpAnyH_take (i := 5) (v := ?vv5) (by rfl) (by kernel_rfl) (by kernel_rfl) (by kernel_rfl) (by intro _ _ _ h; exact h) (Or.inl ⟨by kernel_rfl, ?hy5⟩) (by assumption) ?rest5
    case hy5 =>
      intro w' hSw
      have hSw : Mods (fun y => y = g ∨ (Value.slice po d.moves.length cap).ownBlock = some y) w1 w' := hSw
      have hBq := HM.out.mods hSw (fun hh => hh.elim (fun e => HNG.out e) HNQ.out)
      have hx0 : World.cell? w' ⟨q, 0, none⟩ = some (.int .i64 (m.node : Int)) := by rw [hBq.cell]; rfl
      have hx1 : World.cell? w' ⟨q, 1, none⟩ = some (.string (bstr m.name)) := by rw [hBq.cell]; rfl
      have hx2 : World.cell? w' ⟨q, 2, none⟩ = some (.bool m.made) := by rw [hBq.cell]; rfl
      clear hSw
      go_simp
      try with_reducible rfl
    change wpAnyH _ _ _ _ _ _ _ (Act.put _ (some 9) _) _
    try simp only [Act.put, List.setIfInBounds_toArray, List.set_cons_zero, List.set_cons_succ]
    refine wpAnyH_ready (rs := [4, 6]) (by kernel_rfl) (by simp) ?_
    refine AllReadyH.cons (o := _) rfl (fun K hK => ?_) ?_
    · have hx : World.cell? xs ⟨g, 4, none⟩ = some (Value.slice po d.moves.length cap) := by rw [HX.out.cell]; rfl
      go_simp
      clear hx
      have hb := hHeld
      refine hK.out _ _ hb (fun _ => ?_)
      clear hK K hHeld
      have hHeld : Mods (fun y => y = g ∨ (Value.slice po d.moves.length cap).ownBlock = some y) w1 xs := hb
      clear hb
      try simp only [Act.put, List.setIfInBounds_toArray, List.set_cons_zero, List.set_cons_succ]
      refine wpAnyH_ready (rs := [6]) (by kernel_rfl) (by simp) ?_
      refine AllReadyH.cons (o := _) rfl (fun K hK => ?_) ?_
      · go_simp
        obtain ⟨b6, hb6⟩ : ∃ z, z = (World.heap xs).size := ⟨_, rfl⟩
        have HB6 : Hid (Blk (World.alloc xs (.cells #[.int .i64 (m.node : Int), .string (bstr m.name), .bool m.made] 123)) b6 123 #[.int .i64 (m.node : Int), .string (bstr m.name), .bool m.made]) := Lib.hid (Blk.new _ _ _ hb6)
        have HX := Lib.hid (HX.out.alloc (.cells #[.int .i64 (m.node : Int), .string (bstr m.name), .bool m.made] 123))
        have HR := Lib.hid (Frm.ownsRow_keeps HR.out ((Keeps.refl _).alloc (.cells #[.int .i64 (m.node : Int), .string (bstr m.name), .bool m.made] 123)))
        have HMq := Lib.hid (HMq.out.alloc (.cells #[.int .i64 (m.node : Int), .string (bstr m.name), .bool m.made] 123))
        have hb := hHeld.alloc (.cells #[.int .i64 (m.node : Int), .string (bstr m.name), .bool m.made] 123)
        have HBB := Lib.hid hb6
        clear hb6
        generalize World.alloc xs (.cells #[.int .i64 (m.node : Int), .string (bstr m.name), .bool m.made] 123) = x6 at *
        refine hK.out _ _ hb (fun _ => ?_)
        clear hK K hHeld
        have hHeld : Mods (fun y => y = g ∨ (Value.slice po d.moves.length cap).ownBlock = some y) w1 x6 := hb
        clear hb
        try simp only [Act.put, List.setIfInBounds_toArray, List.set_cons_zero, List.set_cons_succ]
        refine wpAnyH_ready (rs := [7]) (by kernel_rfl) (by simp) ?_
        refine AllReadyH.cons (o := _) rfl (fun K hK => ?_) ?_
        · refine step_appF (base := 0) mvok (by decide) rfl _ _ rfl (Value.slice po d.moves.length cap) d.moves.length 1 1 ⟨b6, 0, none⟩ (d.moves.flatMap mvC) [.int .i64 (m.node : Int), .string (bstr m.name), .bool m.made] rfl (congrArg (fun g => Value.slice (some ⟨g, 0, none⟩) 1 1) HBB.out.symm) HR.out rfl (fun j y hy => by rw [Go.WideShapes.add_plain, HB6.out.cell, Nat.zero_add]; simpa using hy) (by simp [Value.oneCell']) (by omega) (by decide) (Nat.zero_le _) ?_
          intro v7 x7 ho7 hg7 hf7
          have HZ7 := Lib.hid hHeld.size
          obtain ⟨p7, c7, rfl, -, -⟩ := Frm.ownsRow_form ho7
          have H7 := Lib.hid ho7
          have HF7 := Lib.hid (fun y hy => (hf7 y hy).imp id (fun hh => Nat.le_trans HZ7.out hh))
          have HX := Lib.hid (HX.out.grown hg7 HN1.out)
          have HMq := Lib.hid (HMq.out.grown hg7 HNQ.out)
          have hb := hHeld.grown hg7 (fun k hk _ => .inr hk)
          clear ho7 hg7 hf7 HB6
          show K (Act.put _ (some 11) _) x7
          refine hK.out _ _ hb (fun _ => ?_)
          clear hK K hHeld
          have hHeld : Mods (fun y => y = g ∨ (Value.slice po d.moves.length cap).ownBlock = some y) w1 x7 := hb
          clear hb
          try simp only [Act.put, List.setIfInBounds_toArray, List.set_cons_zero, List.set_cons_succ]
          refine wpAnyH_take (i := 8) (v := ?vv6) (by rfl) (by kernel_rfl) (by kernel_rfl) (by kernel_rfl) (by intro _ _ _ h; exact h) (Or.inl ⟨by kernel_rfl, ?hy6⟩) (by assumption) ?rest6
          case hy6 =>
            intro w' hSw
            have hSw : Mods (fun y => y = g ∨ (Value.slice po d.moves.length cap).ownBlock = some y) w1 w' := hSw
            clear hSw
            go_simp
            try with_reducible rfl
          change wpAnyH _ _ _ _ _ _ _ (Act.put _ (some 12) _) _
          try simp only [Act.put, List.setIfInBounds_toArray, List.set_cons_zero, List.set_cons_succ]
          refine wpAnyH_take (i := 9) (v := ?vv7) (by rfl) (by kernel_rfl) (by kernel_rfl) (by kernel_rfl) (by intro _ _ _ h; exact h) (Or.inl ⟨by kernel_rfl, ?hy7⟩) (by assumption) ?rest7
          case hy7 =>
            intro w' hSw
            have hSw : Mods (fun y => y = g ∨ (Value.slice po d.moves.length cap).ownBlock = some y) w1 w' := hSw
            clear hSw
            go_simp
            try with_reducible rfl
          change wpAnyH _ _ _ _ _ _ _ (Act.put _ (some 13) _) _
          try simp only [Act.put, List.setIfInBounds_toArray, List.set_cons_zero, List.set_cons_succ]
          refine wpAnyH_ready (rs := [10]) (by kernel_rfl) (by simp) ?_
          refine AllReadyH.cons (o := _) rfl (fun K hK => ?_) ?_
          · have hx : World.cell? x7 ⟨g, 4, none⟩ = some (Value.slice po d.moves.length cap) := by rw [HX.out.cell]; rfl
            have hz : World.frozen? x7 ⟨g, 4, none⟩ = false := HX.out.frozen 4
            go_simp
            have HX3 := Lib.hid (HX.out.set_ 4 (.slice p7 (d.moves.length + 1) c7))
            have H7s := Lib.hid (Frm.ownsRow_mods (S := fun x => x = g) H7.out ((Mods.refl (fun x => x = g) _).setCell (p := ⟨g, 4, none⟩) (fun _ => rfl) (.slice p7 (d.moves.length + 1) c7)) (fun x hx e => Frm.ownsRow_ne H7.out HX.out (by decide) (by rw [hx, e])))
            have HMq := Lib.hid (HMq.out.far HNG.out (p := ⟨g, 4, none⟩) (.slice p7 (d.moves.length + 1) c7))
            have hb := hHeld.setCell (p := ⟨g, 4, none⟩) (fun _ => .inl rfl) (.slice p7 (d.moves.length + 1) c7)
            clear hx hz HX H7
            generalize World.setCell x7 ⟨g, 4, none⟩ (.slice p7 (d.moves.length + 1) c7) = xF at *
            refine hK.out _ _ hb (fun _ => ?_)
            clear hK K hHeld
            have hHeld : Mods (fun y => y = g ∨ (Value.slice po d.moves.length cap).ownBlock = some y) w1 xF := hb
            clear hb
            try simp only [Act.put, List.setIfInBounds_toArray, List.set_cons_zero, List.set_cons_succ]
            refine wpAnyH_done (by kernel_rfl) ?_ _
            refine NoPanic.normal ?_
            go_wp2_with fail
            go_meet
            refine ⟨.slice p7 (d.moves.length + 1) c7, Lib.hid ⟨by simpa [diskA] using HX3.out, by simpa [mvC] using H7s.out, (Mods.of_keeps HK1.out).trans hHeld (fun y hy _ => hy), HMq.out, fun y hy => (HF7.out y hy).imp id (fun hh => ⟨Nat.le_trans HS1.out hh, (owns_ty H7s.out hy).lt⟩)⟩⟩
          exact AllReadyH.nil
        exact AllReadyH.nil
      exact AllReadyH.nil
    refine AllReadyH.cons (o := _) rfl (fun K hK => ?_) ?_
    · go_simp
      obtain ⟨b6, hb6⟩ : ∃ z, z = (World.heap xs).size := ⟨_, rfl⟩
      have HB6 : Hid (Blk (World.alloc xs (.cells #[.int .i64 (m.node : Int), .string (bstr m.name), .bool m.made] 123)) b6 123 #[.int .i64 (m.node : Int), .string (bstr m.name), .bool m.made]) := Lib.hid (Blk.new _ _ _ hb6)
      have HX := Lib.hid (HX.out.alloc (.cells #[.int .i64 (m.node : Int), .string (bstr m.name), .bool m.made] 123))
      have HR := Lib.hid (Frm.ownsRow_keeps HR.out ((Keeps.refl _).alloc (.cells #[.int .i64 (m.node : Int), .string (bstr m.name), .bool m.made] 123)))
      have HMq := Lib.hid (HMq.out.alloc (.cells #[.int .i64 (m.node : Int), .string (bstr m.name), .bool m.made] 123))
      have hb := hHeld.alloc (.cells #[.int .i64 (m.node : Int), .string (bstr m.name), .bool m.made] 123)
      have HBB := Lib.hid hb6
      clear hb6
      generalize World.alloc xs (.cells #[.int .i64 (m.node : Int), .string (bstr m.name), .bool m.made] 123) = x6 at *
      refine hK.out _ _ hb (fun _ => ?_)
      clear hK K hHeld
      have hHeld : Mods (fun y => y = g ∨ (Value.slice po d.moves.length cap).ownBlock = some y) w1 x6 := hb
      clear hb
      try simp only [Act.put, List.setIfInBounds_toArray, List.set_cons_zero, List.set_cons_succ]
      refine wpAnyH_ready (rs := [4]) (by kernel_rfl) (by simp) ?_
      refine AllReadyH.cons (o := _) rfl (fun K hK => ?_) ?_
      · have hx : World.cell? x6 ⟨g, 4, none⟩ = some (Value.slice po d.moves.length cap) := by rw [HX.out.cell]; rfl
        go_simp
        clear hx
        have hb := hHeld
        refine hK.out _ _ hb (fun _ => ?_)
        clear hK K hHeld
        have hHeld : Mods (fun y => y = g ∨ (Value.slice po d.moves.length cap).ownBlock = some y) w1 x6 := hb
        clear hb
        try simp only [Act.put, List.setIfInBounds_toArray, List.set_cons_zero, List.set_cons_succ]
        refine wpAnyH_ready (rs := [7]) (by kernel_rfl) (by simp) ?_
        refine AllReadyH.cons (o := _) rfl (fun K hK => ?_) ?_
        · refine step_appF (base := 0) mvok (by decide) rfl _ _ rfl (Value.slice po d.moves.length cap) d.moves.length 1 1 ⟨b6, 0, none⟩ (d.moves.flatMap mvC) [.int .i64 (m.node : Int), .string (bstr m.name), .bool m.made] rfl (congrArg (fun g => Value.slice (some ⟨g, 0, none⟩) 1 1) HBB.out.symm) HR.out rfl (fun j y hy => by rw [Go.WideShapes.add_plain, HB6.out.cell, Nat.zero_add]; simpa using hy) (by simp [Value.oneCell']) (by omega) (by decide) (Nat.zero_le _) ?_
          intro v7 x7 ho7 hg7 hf7
          have HZ7 := Lib.hid hHeld.size
          obtain ⟨p7, c7, rfl, -, -⟩ := Frm.ownsRow_form ho7
          have H7 := Lib.hid ho7
          have HF7 := Lib.hid (fun y hy => (hf7 y hy).imp id (fun hh => Nat.le_trans HZ7.out hh))
          have HX := Lib.hid (HX.out.grown hg7 HN1.out)
          have HMq := Lib.hid (HMq.out.grown hg7 HNQ.out)
          have hb := hHeld.grown hg7 (fun k hk _ => .inr hk)
          clear ho7 hg7 hf7 HB6
          show K (Act.put _ (some 11) _) x7
          refine hK.out _ _ hb (fun _ => ?_)
          clear hK K hHeld
          have hHeld : Mods (fun y => y = g ∨ (Value.slice po d.moves.length cap).ownBlock = some y) w1 x7 := hb
          clear hb
          try simp only [Act.put, List.setIfInBounds_toArray, List.set_cons_zero, List.set_cons_succ]
          refine wpAnyH_take (i := 8) (v := ?vv8) (by rfl) (by kernel_rfl) (by kernel_rfl) (by kernel_rfl) (by intro _ _ _ h; exact h) (Or.inl ⟨by kernel_rfl, ?hy8⟩) (by assumption) ?rest8
          case hy8 =>
            intro w' hSw
            have hSw : Mods (fun y => y = g ∨ (Value.slice po d.moves.length cap).ownBlock = some y) w1 w' := hSw
            clear hSw
            go_simp
            try with_reducible rfl
          change wpAnyH _ _ _ _ _ _ _ (Act.put _ (some 12) _) _
          try simp only [Act.put, List.setIfInBounds_toArray, List.set_cons_zero, List.set_cons_succ]
          refine wpAnyH_take (i := 9) (v := ?vv9) (by rfl) (by kernel_rfl) (by kernel_rfl) (by kernel_rfl) (by intro _ _ _ h; exact h) (Or.inl ⟨by kernel_rfl, ?hy9⟩) (by assumption) ?rest9
          case hy9 =>
            intro w' hSw
            have hSw : Mods (fun y => y = g ∨ (Value.slice po d.moves.length cap).ownBlock = some y) w1 w' := hSw
            clear hSw
            go_simp
            try with_reducible rfl
          change wpAnyH _ _ _ _ _ _ _ (Act.put _ (some 13) _) _
          try simp only [Act.put, List.setIfInBounds_toArray, List.set_cons_zero, List.set_cons_succ]
          refine wpAnyH_ready (rs := [10]) (by kernel_rfl) (by simp) ?_
          refine AllReadyH.cons (o := _) rfl (fun K hK => ?_) ?_
          · have hx : World.cell? x7 ⟨g, 4, none⟩ = some (Value.slice po d.moves.length cap) := by rw [HX.out.cell]; rfl
            have hz : World.frozen? x7 ⟨g, 4, none⟩ = false := HX.out.frozen 4
            go_simp
            have HX3 := Lib.hid (HX.out.set_ 4 (.slice p7 (d.moves.length + 1) c7))
            have H7s := Lib.hid (Frm.ownsRow_mods (S := fun x => x = g) H7.out ((Mods.refl (fun x => x = g) _).setCell (p := ⟨g, 4, none⟩) (fun _ => rfl) (.slice p7 (d.moves.length + 1) c7)) (fun x hx e => Frm.ownsRow_ne H7.out HX.out (by decide) (by rw [hx, e])))
            have HMq := Lib.hid (HMq.out.far HNG.out (p := ⟨g, 4, none⟩) (.slice p7 (d.moves.length + 1) c7))
            have hb := hHeld.setCell (p := ⟨g, 4, none⟩) (fun _ => .inl rfl) (.slice p7 (d.moves.length + 1) c7)
            clear hx hz HX H7
            generalize World.setCell x7 ⟨g, 4, none⟩ (.slice p7 (d.moves.length + 1) c7) = xF at *
            refine hK.out _ _ hb (fun _ => ?_)
            clear hK K hHeld
            have hHeld : Mods (fun y => y = g ∨ (Value.slice po d.moves.length cap).ownBlock = some y) w1 xF := hb
            clear hb
            try simp only [Act.put, List.setIfInBounds_toArray, List.set_cons_zero, List.set_cons_succ]
            refine wpAnyH_done (by kernel_rfl) ?_ _
            refine NoPanic.normal ?_
            go_wp2_with fail
            go_meet
            refine ⟨.slice p7 (d.moves.length + 1) c7, Lib.hid ⟨by simpa [diskA] using HX3.out, by simpa [mvC] using H7s.out, (Mods.of_keeps HK1.out).trans hHeld (fun y hy _ => hy), HMq.out, fun y hy => (HF7.out y hy).imp id (fun hh => ⟨Nat.le_trans HS1.out hh, (owns_ty H7s.out hy).lt⟩)⟩⟩
          exact AllReadyH.nil
        exact AllReadyH.nil
      exact AllReadyH.nil
    exact AllReadyH.nil
  case rest =>
  obtain ⟨mv2, HC⟩ := hcut
  obtain ⟨w2, rfl⟩ : ∃ z : World, z = wc := ⟨_, rfl⟩
  have hdb := HD.out
  have HNG := Lib.hid (show b1 ≠ g from hdb.ng.1)
  have HNQ1 := Lib.hid (show b1 ≠ q from fun e => by have := hdb.seen.lt; have := HQ.out; omega)
  have HNM0 := Lib.hid (hdb.seen.mods HC.out.2.2.1 (fun hh => hh.elim HNG.out (fun e => names_ty hdb.seen (owns_ty hdb.mvs e) rfl)))
  have HNM := Lib.hid (HNM0.out.keeps (Keeps.refl w2).drew)
  have HLS := Lib.hid hdb.fit.s1
  clear hdb
  have hm3 : m.name.length ≤ maxLen := by unfold maxLen; omega
  have hls : d.seen.length < 1000000 := by have := HLS.out; omega
  clear c4' hm0 hm1 hm2
  go_wp2_with fail
  refine wp_region_noPanic ?_
  refine wp_region_held_drew (S := fun w' => Mods (· = b1) w2 w') (by kernel_rfl) ((Mods.refl (· = b1) w2).drew) (fun _ => ?_)
  have hHeld : Mods (· = b1) w2 (w2).drew := (Mods.refl (· = b1) w2).drew
  generalize World.drew w2 = xs at *
  refine wpAnyH_take (i := 0) (v := ?vv10) (by rfl) (by kernel_rfl) (by kernel_rfl) (by kernel_rfl) (by intro _ _ _ h; exact h) (Or.inl ⟨by kernel_rfl, ?hy10⟩) (by assumption) ?rest10
  case hy10 =>
    intro w' hSw
    have hSw : Mods (· = b1) w2 w' := hSw
    clear hSw
    go_simp
    try with_reducible rfl
  change wpAnyH _ _ _ _ _ _ _ (Act.put _ (some 14) _) _
  try simp only [Act.put, List.setIfInBounds_toArray, List.set_cons_zero, List.set_cons_succ]
  refine wpAnyH_take (i := 1) (v := ?vv11) (by rfl) (by kernel_rfl) (by kernel_rfl) (by kernel_rfl) (by intro _ _ _ h; exact h) (Or.inl ⟨by kernel_rfl, ?hy11⟩) (by assumption) ?rest11
  case hy11 =>
    intro w' hSw
    have hSw : Mods (· = b1) w2 w' := hSw
    clear hSw
    go_simp
    try with_reducible rfl
  change wpAnyH _ _ _ _ _ _ _ (Act.put _ (some 15) _) _
  try simp only [Act.put, List.setIfInBounds_toArray, List.set_cons_zero, List.set_cons_succ]
  refine wpAnyH_take (i := 2) (v := ?vv12) (by rfl) (by kernel_rfl) (by kernel_rfl) (by kernel_rfl) (by intro _ _ _ h; exact h) (Or.inl ⟨by kernel_rfl, ?hy12⟩) (by assumption) ?rest12
  case hy12 =>
    intro w' hSw
    have hSw : Mods (· = b1) w2 w' := hSw
    clear hSw
    go_simp
    try with_reducible rfl
  change wpAnyH _ _ _ _ _ _ _ (Act.put _ (some 16) _) _
  try simp only [Act.put, List.setIfInBounds_toArray, List.set_cons_zero, List.set_cons_succ]
  refine wpAnyH_take (i := 3) (v := ?vv13) (by rfl) (by kernel_rfl) (by kernel_rfl) (by kernel_rfl) (by intro _ _ _ h; exact h) (Or.inl ⟨by kernel_rfl, ?hy13⟩) (by assumption) ?rest13
  case hy13 =>
    intro w' hSw
    have hSw : Mods (· = b1) w2 w' := hSw
    have hBq := HC.out.1.mods hSw (fun e => HNG.out e.symm)
    have hx0 : World.cell? w' ⟨g, 2, none⟩ = some (.map (some b1)) := by rw [hBq.cell]; rfl
    clear hSw
    go_simp
    try with_reducible rfl
  change wpAnyH _ _ _ _ _ _ _ (Act.put _ (some 17) _) _
  try simp only [Act.put, List.setIfInBounds_toArray, List.set_cons_zero, List.set_cons_succ]
  refine wpAnyH_take (i := 4) (v := ?vv14) (by rfl) (by kernel_rfl) (by kernel_rfl) (by kernel_rfl) (by intro _ _ _ h; exact h) (Or.inl ⟨by kernel_rfl, ?hy14⟩) (by assumption) ?rest14
  case hy14 =>
    intro w' hSw
    have hSw : Mods (· = b1) w2 w' := hSw
    have hBq := HC.out.2.2.2.1.mods hSw (fun e => HNQ1.out e.symm)
    have hx0 : World.cell? w' ⟨q, 0, none⟩ = some (.int .i64 (m.node : Int)) := by rw [hBq.cell]; rfl
    have hx1 : World.cell? w' ⟨q, 1, none⟩ = some (.string (bstr m.name)) := by rw [hBq.cell]; rfl
    have hx2 : World.cell? w' ⟨q, 2, none⟩ = some (.bool m.made) := by rw [hBq.cell]; rfl
    clear hSw
    go_simp
    try with_reducible rfl
  change wpAnyH _ _ _ _ _ _ _ (Act.put _ (some 18) _) _
  try simp only [Act.put, List.setIfInBounds_toArray, List.set_cons_zero, List.set_cons_succ]
  refine wpAnyH_ready (rs := [5]) (by kernel_rfl) (by simp) ?_
  refine AllReadyH.cons (o := _) rfl (fun K hK => ?_) ?_
  · go_simp
    refine (give_any _ HNM.out hls m hm3).mono ?_
    rintro e yA ⟨rfl, hn1, hM1⟩
    have hb := hHeld.trans hM1 (fun x hx _ => hx)
    have HN := Lib.hid hn1
    clear hn1 hM1
    go_wp2_with fail
    refine hK.out _ _ hb (fun _ => ?_)
    clear hK K hHeld
    have hHeld : Mods (· = b1) w2 yA := hb
    clear hb
    try simp only [Act.put, List.setIfInBounds_toArray, List.set_cons_zero, List.set_cons_succ]
    refine wpAnyH_done (by kernel_rfl) ?_ _
    refine NoPanic.normal ?_
    go_wp2_with fail
    go_end0
    have hMA := (HC.out.2.2.1.mono (fun y hy => (show (y = g ∨ (Value.slice po d.moves.length cap).ownBlock = some y) ∨ y = b1 from .inl hy))).trans hHeld (fun y hy _ => .inr hy)
    refine ⟨rfl, ⟨_, _, _, _, _, HD.out.moved hMA (fun y hy => hy.elim (fun h => h.elim .inl (fun e => .inr (.inl e))) (fun e => .inr (.inr e))) (HC.out.1.mods hHeld (fun e => HNG.out e.symm)) HN.out.tight (Frm.ownsRow_mods HC.out.2.1 hHeld (fun y hy e => names_ty HNM0.out (owns_ty HC.out.2.1 hy) e.symm)) (fun y hy => (HC.out.2.2.2.2 y hy).imp id (fun hh => ⟨hh.1, Nat.lt_of_lt_of_le hh.2 hHeld.size⟩)) hf⟩, hMA.mono (fun y hy => ?_)⟩
    rcases hy with (rfl | hy) | rfl
    · exact HD.out.sg
    · exact HD.out.sm _ hy
    · exact HD.out.s1
  exact AllReadyH.nil
end Vd
end Go.Proofs.YtchjncnolmiejaaGreat

/- A new node. -/
namespace Go.Proofs.YtchjncnolmiejaaGreat
open Go.RowKit
namespace Vd
open Go.Maps
def newN : Nod := ⟨[], [], [], true⟩
def bornD (d : Dsk) : Dsk := { d with nodes := d.nodes ++ [newN] }
theorem DiskIn.born {w w' : World} {S : Nat → Prop} {g b1 b2 : Nat} {nv mv : Value} {nb : List NB} {d : Dsk} (h : DiskIn w S g b1 b2 nv mv nb d) {T : Nat → Prop} (hM : Mods T w w') (hT : ∀ y, T y → y = g ∨ nv.ownBlock = some y) {nv' : Value} {k : Nat} (hk : w.heap.size ≤ k)
    (hB : Blk w' g 82 (diskA d nv' b1 b2 mv)) (hn : NodB w' (k, .slice none 0 0) newN) (hr : w'.ownsRow 0 85 1 nv' (nb.length + 1) ((nb ++ [(k, Value.slice none 0 0)]).map fun (p : NB) => Value.pointer (some ⟨p.1, 0, none⟩)))
    (hp : ∀ y, nv'.ownBlock = some y → nv.ownBlock = some y ∨ (w.heap.size ≤ y ∧ y < w'.heap.size)) (hf : Fit (bornD d)) : DiskIn w' (More S w w') g b1 b2 nv' mv (nb ++ [(k, Value.slice none 0 0)]) (bornD d) := by
  have tT : ∀ y, T y → Ty w y 82 ∨ Ty w y 85 := fun y hy => (hT y hy).imp (fun e => by subst e; exact ⟨_, h.blk⟩) (owns_ty h.row)
  have out : ∀ {y : Nat} {t : TypeId}, Ty w y t → 82 ≠ t → 85 ≠ t → ¬ T y := fun hy n1 n2 ht => by
    rcases tT _ ht with e | e
    · exact Ty.ne e hy n1 rfl
    · exact Ty.ne e hy n2 rfl
  have outm : ∀ {b n : Nat} {l : Nms}, NamesAt w b n l → ¬ T b := fun hb ht => by
    rcases tT _ ht with e | e
    · exact names_ty hb e rfl
    · exact names_ty hb e rfl
  have hkl : k < w'.heap.size := hn.blk.lt
  exact
    { blk := hB
      row := by simpa using hr
      len := by simp [bornD, h.len]
      nod := fun i h1 h2 => by
        by_cases hi : i < nb.length
        · have hi2 : i < d.nodes.length := by rw [← h.len]; exact hi
          have hh := h.nod i hi hi2
          have e1 : (nb ++ [(k, Value.slice none 0 0)])[i] = nb[i] := List.getElem_append_left hi
          have e2 : (bornD d).nodes[i] = d.nodes[i] := List.getElem_append_left hi2
          rw [e1, e2]
          exact hh.mods hM (out ⟨_, hh.blk⟩ (by decide) (by decide)) (fun y hy => out (owns_ty hh.pats hy) (by decide) (by decide))
        · have hi1 : i = nb.length := by simp at h1; omega
          subst hi1
          have e1 : (nb ++ [(k, Value.slice none 0 0)])[nb.length] = (k, Value.slice none 0 0) := by simp
          have e2 : (bornD d).nodes[nb.length] = newN := by simp [bornD, h.len]
          rw [e1, e2]
          exact hn
      sep := by
        refine List.pairwise_append.2 ⟨h.sep, by simp, fun p hp q hq => ?_⟩
        simp at hq
        subst hq
        refine ⟨fun e => ?_, fun y _ => by simp [Value.ownBlock]⟩
        obtain ⟨i, hi, rfl⟩ := List.mem_iff_getElem.1 hp
        have := (h.nod i hi (by rw [← h.len]; exact hi)).blk.lt
        have e' : nb[i].1 = k := e
        omega
      seen := h.seen.mods hM (outm h.seen)
      sure := h.sure.mods hM (outm h.sure)
      mvs := Frm.ownsRow_mods h.mvs hM (fun y hy => out (owns_ty h.mvs hy) (by decide) (by decide))
      d12 := h.d12
      sg := .inl h.sg
      s1 := .inl h.s1
      s2 := .inl h.s2
      sn := fun y hy => (hp y hy).imp (h.sn y) id
      sm := fun y hy => .inl (h.sm y hy)
      sb := fun p hp => by
        rcases List.mem_append.1 hp with hp | hp
        · exact ⟨.inl (h.sb p hp).1, fun y hy => .inl ((h.sb p hp).2 y hy)⟩
        · simp at hp
          subst hp
          exact ⟨.inr ⟨hk, hkl⟩, fun y hy => by simp [Value.ownBlock] at hy⟩
      fit := hf }
end Vd
end Go.Proofs.YtchjncnolmiejaaGreat

/- Create. -/
namespace Go.Proofs.YtchjncnolmiejaaGreat
open Go.RowKit
namespace Vd
open Go.Maps
def createD (d : Dsk) (x : Str) : Dsk × Int :=
  if (changeD d).2 ≠ 0 then changeD d
  else if namedB x = false then ((changeD d).1, 3)
  else if (look d.seen x).isSome then ((changeD d).1, 8)
  else if d.seen.length = 1024 then ((changeD d).1, 6)
  else (turnD (bornD (changeD d).1) ⟨d.nodes.length, x, true⟩, 0)
theorem nodok : ElemOkS Tryz.prog 79 85 1 8 := elemOkS (z := .pointer none) Tryz.underlying79 (by kernel_rfl) rfl
theorem bytesN_born (d : Dsk) (h : ∀ p ∈ d.seen, p.2 < d.nodes.length) : bytesN (bornD d).nodes d.seen = bytesN d.nodes d.seen := by
  unfold bytesN
  congr 1
  refine List.map_congr_left (fun p hp => ?_)
  have := h p hp
  simp [bornD, List.getElem?_append_left this]
theorem two_filters {α : Type} (f : α → Nat) (A B : α → Bool) (hAB : ∀ x, A x = true → B x = false) (l : List α) : ((l.filter A).map f).sum + ((l.filter B).map f).sum ≤ (l.map f).sum := by
  induction l with
  | nil => simp
  | cons a l ih =>
    cases ha : A a
    · cases hb : B a
      · simp [List.filter_cons, ha, hb]; omega
      · simp [List.filter_cons, ha, hb]; omega
    · have hb := hAB a ha
      simp [List.filter_cons, ha, hb]; omega
theorem two_lens {α : Type} (A B : α → Bool) (hAB : ∀ x, A x = true → B x = false) (l : List α) : (l.filter A).length + (l.filter B).length ≤ l.length := by
  have := two_filters (fun _ => 1) A B hAB l
  simpa [List.map_const', List.sum_replicate_nat] using this
theorem apartS (x : Str) (p : Str × Nat) (h : decide (p.1 < x) = true) : decide (x < p.1) = false := by
  simp at h ⊢
  exact Std.le_of_lt h
theorem give_len (l : Nms) (m : Mv) : (giveN l m).length ≤ l.length + 1 := by
  have h1 : (dropN l m.node).length ≤ l.length := List.length_filter_le _ _
  unfold giveN
  split
  · omega
  · unfold putN
    have := two_lens (fun p : Str × Nat => decide (p.1 < m.name)) (fun p => decide (m.name < p.1)) (apartS m.name) (dropN l m.node)
    simp only [List.length_append, List.length_cons]
    omega
theorem give_mem {l : Nms} {m : Mv} {p : Str × Nat} (h : p ∈ giveN l m) : p ∈ l ∨ p = (m.name, m.node) := by
  unfold giveN at h
  split at h
  · exact .inl (List.mem_filter.1 h).1
  · unfold putN at h
    rcases List.mem_append.1 h with h | h
    · exact .inl (List.mem_filter.1 (List.mem_filter.1 h).1).1
    · rcases List.mem_cons.1 h with h | h
      · exact .inr h
      · exact .inl (List.mem_filter.1 (List.mem_filter.1 h).1).1
theorem give_bytes (nodes : List Nod) (l : Nms) (m : Mv) : bytesN nodes (giveN l m) ≤ bytesN nodes l + ((nodes[m.node]?).map (·.seen.length)).getD 0 := by
  have h1 : bytesN nodes (dropN l m.node) ≤ bytesN nodes l := by
    have := two_filters (fun p : Str × Nat => ((nodes[p.2]?).map (·.seen.length)).getD 0) (fun p => decide (p.2 ≠ m.node)) (fun _ => false) (fun _ _ => rfl) l
    unfold bytesN dropN
    omega
  unfold giveN
  split
  · omega
  · have := two_filters (fun p : Str × Nat => ((nodes[p.2]?).map (·.seen.length)).getD 0) (fun p => decide (p.1 < m.name)) (fun p => decide (m.name < p.1)) (apartS m.name) (dropN l m.node)
    unfold bytesN at h1 ⊢
    unfold putN
    simp only [List.map_append, List.map_cons, List.sum_append, List.sum_cons]
    omega
theorem fit_create {d : Dsk} (h : Fit d) {x : Str} (hx : x.length ≤ 32) (hl : d.seen.length < 1024) : Fit (bornD d) ∧ Fit (turnD (bornD d) ⟨d.nodes.length, x, true⟩) := by
  have hb := bytesN_born d h.is
  have hlen : (bornD d).nodes.length = d.nodes.length + 1 := by simp [bornD]
  have f1 : Fit (bornD d) := { h with
    is := fun p hp => by have := h.is p hp; omega
    iu := fun p hp => by have := h.iu p hp; omega
    im := fun p hp => by have := h.im p hp; omega
    ns := fun y hy => by
      rcases List.mem_append.1 hy with hy | hy
      · exact h.ns y hy
      · simp at hy; subst hy; simp [newN]
    ps := fun y hy p hp => by
      rcases List.mem_append.1 hy with hy | hy
      · exact h.ps y hy p hp
      · simp at hy; subst hy; simp [newN] at hp
    fr := by have := h.fr; show (bytesN (bornD d).nodes d.seen : Int) ≤ _; rw [hb]; exact this }
  refine ⟨f1, { f1 with
    s1 := ?_
    is := fun p hp => ?_
    im := fun p hp => ?_
    nm := fun p hp => ?_
    fr := ?_ }⟩
  · have := give_len d.seen ⟨d.nodes.length, x, true⟩
    show (giveN d.seen _).length ≤ 1024
    omega
  · show p.2 < (bornD d).nodes.length
    rcases give_mem hp with hp | rfl
    · exact f1.is p hp
    · simp [hlen]
  · show p.node < (bornD d).nodes.length
    rcases List.mem_append.1 hp with hp | hp
    · exact f1.im p hp
    · simp at hp; subst hp; simp [hlen]
  · rcases List.mem_append.1 hp with hp | hp
    · exact f1.nm p hp
    · simp at hp; subst hp; exact hx
  · have h1 := give_bytes (bornD d).nodes d.seen ⟨d.nodes.length, x, true⟩
    have h2 : ((bornD d).nodes[d.nodes.length]?).map (·.seen.length) = some 0 := by simp [bornD, newN]
    have h3 := h.fr
    show (bytesN (bornD d).nodes (giveN d.seen _) : Int) ≤ _
    simp only [h2, Option.getD_some] at h1
    omega
theorem named_32 {x : Str} (h : namedB x = true) : x.length ≤ 32 := by
  unfold namedB at h
  simp at h
  omega
theorem _root_.Go.Proofs.YtchjncnolmiejaaGreat.Mods.more {S : Nat → Prop} {w w1 w2 : World} (h : Mods S w w1) (k : Mods (More S w1 w2) w1 w2) : Mods S w w2 := h.trans k (fun x hx hlt => hx.elim id (fun hh => by have := h.size; omega))
theorem DiskAt.more {S : Nat → Prop} {w w1 w2 : World} {g : Nat} {d : Dsk} (h : DiskAt w2 (More S w1 w2) g d) (k : Mods S w w1) : DiskAt w2 (More S w w2) g d := h.wide (fun y hy => hy.imp id (fun hh => ⟨Nat.le_trans k.size hh.1, hh.2⟩))
theorem _root_.Go.Proofs.YtchjncnolmiejaaGreat.Mods.step {S : Nat → Prop} {w w1 w2 : World} (h : Mods S w w1) (k : Mods (More S w w1) w1 w2) : Mods S w w2 := h.trans k (fun x hx hlt => hx.elim id (fun hh => by have := h.size; omega))
theorem DiskAt.nest {S : Nat → Prop} {w w1 w2 : World} {g : Nat} {d : Dsk} (h : DiskAt w2 (More (More S w w1) w1 w2) g d) {T T' : Nat → Prop} (k : Mods T w w1) (k2 : Mods T' w1 w2) : DiskAt w2 (More S w w2) g d := h.wide (fun y hy => by
  have h1 := k.size
  have h2 := k2.size
  rcases hy with (hy | hy) | hy
  · exact .inl hy
  · exact .inr ⟨hy.1, Nat.lt_of_lt_of_le hy.2 h2⟩
  · exact .inr ⟨Nat.le_trans h1 hy.1, hy.2⟩)
theorem turnD_len (d : Dsk) (m : Mv) : (turnD d m).moves.length = d.moves.length + 1 := by simp [turnD]
set_option maxRecDepth 100000 in
set_option maxHeartbeats 4000000 in
theorem create_any (w : World) {S : Nat → Prop} {g : Nat} {d : Dsk} (h : DiskAt w S g d) (hn : -1 ≤ d.count ∧ d.count ≤ 9000000000000000000) (x : Str) (hx : x.length ≤ 9000000000000000000) (hml : d.moves.length ≤ 1000000000) (hnl : d.nodes.length ≤ 1000000000) : Calls Tryz.prog 72 #[.pointer (some ⟨g, 0, none⟩), .string (bstr x)] w fun e w' => DskDid w (More S w w') g (createD d x) e w' := by
  have HC := Lib.hid (change_any w h hn)
  have HSE := Lib.hid (changeD_seen d)
  have HX0 : Hid (createD d x = if (changeD d).2 ≠ 0 then changeD d
    else if namedB x = false then ((changeD d).1, 3)
    else if (look d.seen x).isSome then ((changeD d).1, 8)
    else if d.seen.length = 1024 then ((changeD d).1, 6)
    else (turnD (bornD (changeD d).1) ⟨d.nodes.length, x, true⟩, 0)) := Lib.hid rfl
  have HBD := Lib.hid (And.intro hml hnl)
  clear h hml hnl
  unfold DskDid at HC ⊢
  generalize changeD d = cd at *
  obtain ⟨d1, er⟩ := cd
  simp only at HSE HX0
  obtain ⟨e1, e2, e3, e4, e5⟩ := HSE.out
  rw [← e1, ← e2] at HX0
  rw [← e4, ← e2] at HBD
  clear HSE e1 e2 e3 e4 e5
  go_enter Tryz.func72, Tryz.ntmps72
  go_wp2_with fail
  refine HC.out.mono ?_
  rintro e w1 ⟨rfl, hd, hm⟩
  have HD := Lib.hid (show DiskAt w1 S g d1 from hd)
  have HM := Lib.hid hm
  clear hd hm HC
  by_cases he : er = 0
  · subst he
    have HX1 := Lib.hid (HX0.out.trans (if_neg (by simp)))
    clear HX0
    have HNM := Lib.hid (named_any x (by omega) w1)
    cases hnx : namedB x with
    | false =>
      have HX := Lib.hid (HX1.out.trans (if_pos hnx))
      rw [hnx] at HNM
      clear hnx HX1
      go_wp2_with fail
      refine HNM.out.mono ?_
      rintro e w2 ⟨rfl, rfl⟩
      go_wp2_with fail
      go_ret
      exact ⟨(congrArg (fun r : Dsk × Int => Ending.returned (Value.int .i64 r.2)) HX.out).symm, by rw [HX.out]; exact HD.out.wide (fun y hy => .inl hy), HM.out.mono (fun y hy => .inl hy)⟩
    | true =>
      have HX2 := Lib.hid (HX1.out.trans (if_neg (by simp [hnx])))
      have HNX := Lib.hid hnx
      rw [hnx] at HNM
      clear hnx HX1
      obtain ⟨b1, b2, nv, mv, nb, hd⟩ := HD.out
      have hl := hd.seen.look_ok (x := x) (by unfold maxLen; omega)
      obtain ⟨-, c1, c2, -⟩ := hd.cells
      have hlen := hd.seen.len 3
      have HDI := Lib.hid hd
      clear hd
      go_wp2_with fail
      refine HNM.out.mono ?_
      rintro e w2 ⟨rfl, rfl⟩
      cases hlk : look d1.seen x with
      | some i =>
        have HX := Lib.hid (HX2.out.trans (if_pos (by rw [hlk]; rfl)))
        rw [hlk] at hl
        simp only [Option.getD_some, Option.isSome_some] at hl
        clear hlk HX2
        go_wp2_with fail
        go_ret
        exact ⟨(congrArg (fun r : Dsk × Int => Ending.returned (Value.int .i64 r.2)) HX.out).symm, by rw [HX.out]; exact HD.out.wide (fun y hy => .inl hy), HM.out.mono (fun y hy => .inl hy)⟩
      | none =>
        have HX3 := Lib.hid (HX2.out.trans (if_neg (by rw [hlk]; simp)))
        rw [hlk] at hl
        simp only [Option.getD_none, Option.isSome_none] at hl
        clear hlk HX2
        by_cases hfull : d1.seen.length = 1024
        · have HX := Lib.hid (HX3.out.trans (if_pos hfull))
          have ht : ((d1.seen.length : Int) == 1024) = true := by simp [hfull]
          clear hfull HX3
          go_wp2_with fail
          go_ret
          exact ⟨(congrArg (fun r : Dsk × Int => Ending.returned (Value.int .i64 r.2)) HX.out).symm, by rw [HX.out]; exact HD.out.wide (fun y hy => .inl hy), HM.out.mono (fun y hy => .inl hy)⟩
        · have HX := Lib.hid (HX3.out.trans (if_neg hfull))
          have ht : ((d1.seen.length : Int) == 1024) = false := by simp; omega
          have hx32 : x.length ≤ 32 := named_32 HNX.out
          have HF := Lib.hid (fit_create HDI.out.fit hx32 (by have := HDI.out.fit.s1; omega))
          have hnl := HBD.out.2
          obtain ⟨po, cap, rfl, -, -⟩ := Frm.ownsRow_form HDI.out.row
          have hln : nb.length = d1.nodes.length := HDI.out.len
          rw [hln] at c1
          have HR := Lib.hid HDI.out.row
          have HG := Lib.hid HDI.out.blk
          rw [hln] at HR HG
          have HNG : Hid ((Value.slice po d1.nodes.length cap).ownBlock ≠ some g) := Lib.hid (by rw [← hln]; exact HDI.out.ng.2.2.1)
          have HLN := Lib.hid hln
          rw [hln] at HDI
          have HNO : Hid ((Value.slice po d1.nodes.length cap).ownBlock ≠ some w1.heap.size) := Lib.hid (fun e => by have := (owns_ty HR.out e).lt; omega)
          have HNE : Hid (w1.heap.size ≠ g) := Lib.hid (fun e => by have := HG.out.lt; omega)
          generalize d1.nodes.length = n at *
          clear hfull HX3 hln
          go_upto_region 12 with (at_builtin; refine wpList_apps (base := 0) nodok (by decide) rfl _ _ rfl (.slice po n cap) (.slice (some ⟨w1.heap.size + 1, 0, none⟩) 1 1) n 1 (nb.map fun p => Value.pointer (some ⟨p.1, 0, none⟩)) [.pointer (some ⟨w1.heap.size, 0, none⟩)] rfl rfl (Frm.ownsRow_keeps HR.out (((Keeps.refl _).alloc _).alloc _)) (Frm.rowS_lit (by rw [Frm.alloc_size]) rfl rfl) (by simp [Value.oneCell']) (by omega) (by decide) (Nat.zero_le _) ?_; intro v2 w2 ho2 hg2 hf2; obtain ⟨p2, q2, rfl, -, -⟩ := Frm.ownsRow_form ho2; have hG2 := ((HG.out.alloc _).alloc _).grown hg2 HNG.out; have hm2 : w2.cell? ⟨g, 1, none⟩ = some (.slice po n cap) := by { rw [hG2.cell]; rfl }; have hz2 : w2.frozen? ⟨g, 1, none⟩ = false := hG2.frozen 1; have HG2 := Lib.hid hG2; have HN2 := Lib.hid (((Blk.new w1 _ _ rfl).alloc _).grown hg2 (fun e => HNO.out e)); have HO2 := Lib.hid ho2; have HM2 := Lib.hid ((((Mods.refl (fun y => y = g ∨ (Value.slice po n cap).ownBlock = some y) w1).alloc _).alloc _).grown hg2 (fun k hk _ => .inr hk)); have HF2 := Lib.hid hf2; clear ho2 hg2 hf2 hG2)
          have HG3 := Lib.hid (show Blk (World.setCell w2 ⟨g, 1, none⟩ (.slice p2 (n + 1) q2)) g 82 (diskA d1 (.slice p2 (n + 1) q2) b1 b2 mv) from HG2.out.set_ 1 _)
          have HN3 := Lib.hid (HN2.out.far (p := ⟨g, 1, none⟩) (fun e => HNE.out e) (.slice p2 (n + 1) q2))
          have HO3 := Lib.hid (Frm.ownsRow_mods (S := fun x => x = g) HO2.out ((Mods.refl (fun x => x = g) _).setCell (p := ⟨g, 1, none⟩) (fun _ => rfl) (.slice p2 (n + 1) q2)) (fun x hx e => Frm.ownsRow_ne HO2.out HG2.out (by decide) (by rw [hx, e])))
          have HM3 := Lib.hid (HM2.out.setCell (p := ⟨g, 1, none⟩) (fun _ => .inl rfl) (.slice p2 (n + 1) q2))
          clear c1 c2 hm2 hz2 hl hlen HN2 HO2 HM2 HG2
          generalize World.setCell w2 ⟨g, 1, none⟩ (.slice p2 (n + 1) q2) = w3 at *
          have HB3 := Lib.hid (HDI.out.born HM3.out (fun y hy => hy) (k := w1.heap.size) (Nat.le_refl _) HG3.out ⟨HN3.out, World.ownsRow_nil _ _ _ 2⟩ (by have := HO3.out; rw [← HLN.out] at this; simpa [HLN.out] using this) (fun y hy => (HF2.out y hy).imp id (fun hh => ⟨Nat.le_trans (by rw [Frm.alloc_size, Frm.alloc_size]; omega) hh, (owns_ty HO3.out hy).lt⟩)) HF.out.1)
          have c3 : w3.cell? ⟨g, 1, none⟩ = some (.slice p2 (n + 1) q2) := by rw [HG3.out.cell]; rfl
          have hw1 : IntKind.i64.wrap ((n : Int) + 1 - 1) = (n : Int) := by rw [IntKind.wrap_i64]; omega
          have HTN := Lib.hid (turn_any w3 ⟨_, _, _, _, _, HB3.out⟩ ⟨n, x, true⟩ hx32 HBD.out.1 HF.out.2)
          clear HG3 HN3 HO3 HR HG
          go_wp2_with fail
          refine HTN.out.mono ?_
          rintro e w4 ⟨rfl, hd4, hm4⟩
          have HD4 := Lib.hid hd4
          have HM4 := Lib.hid hm4
          clear hd4 hm4 HTN c3 hw1
          go_wp2_with fail
          go_ret
          have hm13 : Mods S w1 w3 := HM3.out.mono (fun y hy => by
            rcases hy with rfl | hy
            · exact HDI.out.sg
            · exact HDI.out.sn _ hy)
          have hm14 : Mods S w1 w4 := hm13.step HM4.out
          exact ⟨(congrArg (fun r : Dsk × Int => Ending.returned (Value.int .i64 r.2)) HX.out).symm, by rw [HX.out]; exact (HD4.out.nest hm13 HM4.out).more HM.out, (HM.out.more (hm14.mono (fun y hy => .inl hy))).mono (fun y hy => .inl hy)⟩
  · have HX := Lib.hid (HX0.out.trans (if_pos he))
    have he' : (er != 0) = true := by simp [he]
    clear he
    go_wp2_with fail
    go_ret
    exact ⟨(congrArg (fun r : Dsk × Int => Ending.returned (Value.int .i64 r.2)) HX.out).symm, by rw [HX.out]; exact HD.out.wide (fun y hy => .inl hy), HM.out.mono (fun y hy => .inl hy)⟩
end Vd
end Go.Proofs.YtchjncnolmiejaaGreat

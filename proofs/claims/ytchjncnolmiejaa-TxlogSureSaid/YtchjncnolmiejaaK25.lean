/- Several texts in one: VdAppend, VdRename. -/
import Derived.Test.YtchjncnolmiejaaK24
import Derived.StillTailTactics
/- Disk.Append, Pwrite, Rename, Unlink. -/
namespace Go.Proofs.Ytchjncnolmiejaa
open Go.RowKit
namespace Vd
open Go.Maps
theorem touch_fst (d : Dsk) (x : Str) : (touchD d x).1 = (changeD d).1 := by
  unfold touchD
  split <;> rfl
theorem touch_seen {d : Dsk} (hf : Fit d) (ha : AscN d.seen) {x : Str} (h : (touchD d x).2.2 = 0) : (touchD d x).2.1 < (touchD d x).1.nodes.length ∧ (x, (touchD d x).2.1) ∈ (touchD d x).1.seen := by
  obtain ⟨h1, h2⟩ := touch_in hf ha h
  refine ⟨h1, ?_⟩
  rw [touch_fst, (changeD_seen d).1]
  exact (look_mem ha).1 h2
theorem touch_nodes (d : Dsk) (x : Str) : (touchD d x).1.nodes = d.nodes ∧ (touchD d x).1.moves = d.moves := by
  rw [touch_fst]
  exact ⟨(changeD_seen d).2.1, (changeD_seen d).2.2.2.1⟩
theorem DskDid.up {S : Nat → Prop} {w w1 w2 : World} {g : Nat} {r : Dsk × Int} {e : Ending} (h : DskDid w1 (More S w1 w2) g r e w2) (k : Mods S w w1) : DskDid w (More S w w2) g r e w2 :=
  ⟨h.1, h.2.1.more k, (k.more h.2.2).mono (fun y hy => .inl hy)⟩
theorem row_heap {w w' : World} (hw : w'.heap = w.heap) {v : Value} {l : List Value} (h : Row w v l) : Row w' v l := by
  rcases h with h | ⟨b, off, cap, h1, h2, h3, h4⟩
  · exact .inl h
  · refine .inr ⟨b, off, cap, h1, h2, h3, fun i x hx => ?_⟩
    rw [World.cell?_of_block (w := w) (by rw [hw])]
    exact h4 i x hx
set_option maxRecDepth 100000 in
set_option maxHeartbeats 4000000 in
theorem append_any (w : World) {S : Nat → Prop} {g : Nat} {d : Dsk} (h : DiskAt w S g d) (hn : -1 ≤ d.count ∧ d.count ≤ 9000000000000000000) (x : Str) (hx : x.length ≤ maxLen) {bv : Value} {b : Str} (hb : ∀ w', Mods S w w' → Row w' bv (b.map u8v)) (hbl : b.length ≤ 1000000000) (hpn : ∀ y ∈ d.nodes, y.pats.length ≤ 1000000000) : Calls Try.prog 15 #[.pointer (some ⟨g, 0, none⟩), .string (bstr x), bv] w fun e w' => DskDid w (More S w w') g (appendD d x b) e w' := by
  have HT := Lib.hid (touch_any w h hn x hx)
  have HIN : Hid ((touchD d x).2.2 = 0 → (touchD d x).2.1 < (touchD d x).1.nodes.length ∧ (x, (touchD d x).2.1) ∈ (touchD d x).1.seen) := Lib.hid (fun hh => by
    obtain ⟨b1, b2, nv, mv, nb, h⟩ := h
    exact touch_seen h.fit h.seen.asc hh)
  have HPN : Hid (∀ y ∈ (touchD d x).1.nodes, y.pats.length ≤ 1000000000) := Lib.hid (by rw [(touch_nodes d x).1]; exact hpn)
  have HX0 : Hid (appendD d x b = if (touchD d x).2.2 ≠ 0 then ((touchD d x).1, (touchD d x).2.2)
    else writeD (touchD d x).1 (touchD d x).2.1 ⟨(nodD (touchD d x).1 (touchD d x).2.1).seen.length, b⟩) := Lib.hid rfl
  have HB := Lib.hid hb
  clear h hb hpn
  unfold TouchDid at HT
  generalize touchD d x = td at *
  obtain ⟨d1, i, er⟩ := td
  go_enter Try.func15, Try.ntmps15
  go_wp2_with fail
  refine HT.out.mono ?_
  rintro e w1 ⟨rfl, hd, hm⟩
  have HD := Lib.hid (show DiskAt w1 S g d1 from hd)
  have HM := Lib.hid hm
  clear hd hm HT
  by_cases he : er = 0
  · subst he
    obtain ⟨hin, hse⟩ := HIN.out rfl
    have HX : Hid (appendD d x b = writeD d1 i ⟨d1.nodes[i].seen.length, b⟩) := Lib.hid ((HX0.out.trans (if_neg (by simp))).trans (by rw [nodD_get hin]))
    obtain ⟨b1, b2, nv, mv, nb, hd⟩ := HD.out
    have hfs := hd.fit.ns _ (List.getElem_mem hin)
    obtain ⟨gn, c, k, pv, rfl, -, n0, hnd⟩ := hd.nodeAt hin
    obtain ⟨-, c1, -⟩ := hd.cells
    have n1 : w1.cell? ⟨k, 0, none⟩ = some (.string (bstr d1.nodes[i].seen)) := by rw [hnd.blk.cell]; rfl
    have HWR := Lib.hid (write_any (w1.drew) (HD.out.keeps (Keeps.refl w1).drew) hin ⟨_, hse⟩ ⟨d1.nodes[i].seen.length, b⟩ hbl (show d1.nodes[i].seen.length ≤ _ by omega) (by rw [nodD_get hin]; exact HPN.out _ (List.getElem_mem hin)))
    have hsz := bstr_size d1.nodes[i].seen
    have hil : (i : Int) < (d1.nodes.length : Int) := by omega
    generalize d1.nodes[i].seen = sx at *
    clear hd hnd HX0 HIN hse hfs
    have HCS := Lib.hid (show (World.drew w1).cell? ⟨g, 1, none⟩ = some (Value.slice (some ⟨gn, 0, none⟩) d1.nodes.length c) ∧ (World.drew w1).cell? ⟨gn, i, none⟩ = some (.pointer (some ⟨k, 0, none⟩)) ∧ (World.drew w1).cell? ⟨k, 0, none⟩ = some (.string (bstr sx)) from ⟨c1, n0, n1⟩)
    clear c1 n0 n1
    go_upto_region 4 with fail
    refine wp_region_noPanic ?_
    refine wp_region_held_drew (S := fun w' => Mods S w1 w') (by kernel_rfl) ((Mods.refl S w1).drew) (fun _ => ?_)
    have hHeld : Mods S w1 (w1).drew := (Mods.refl S w1).drew
    generalize World.drew w1 = xs at *
    refine wpAnyH_take (i := 0) (v := ?vv1) (by rfl) (by kernel_rfl) (by kernel_rfl) (by kernel_rfl) (by intro _ _ _ h; exact h) (Or.inl ⟨by kernel_rfl, ?hy1⟩) (by assumption) ?rest1
    case hy1 =>
      intro w' hSw
      have hSw : Mods S w1 w' := hSw
      clear hSw
      go_simp
      try with_reducible rfl
    change wpAnyH _ _ _ _ _ _ _ (Act.put _ (some 18) _) _
    try simp only [Act.put, List.setIfInBounds_toArray, List.set_cons_zero, List.set_cons_succ]
    refine wpAnyH_take (i := 1) (v := ?vv2) (by rfl) (by kernel_rfl) (by kernel_rfl) (by kernel_rfl) (by intro _ _ _ h; exact h) (Or.inl ⟨by kernel_rfl, ?hy2⟩) (by assumption) ?rest2
    case hy2 =>
      intro w' hSw
      have hSw : Mods S w1 w' := hSw
      clear hSw
      go_simp
      try with_reducible rfl
    change wpAnyH _ _ _ _ _ _ _ (Act.put _ (some 19) _) _
    try simp only [Act.put, List.setIfInBounds_toArray, List.set_cons_zero, List.set_cons_succ]
    refine wpAnyH_take (i := 2) (v := ?vv3) (by rfl) (by kernel_rfl) (by kernel_rfl) (by kernel_rfl) (by intro _ _ _ h; exact h) (Or.inl ⟨by kernel_rfl, ?hy3⟩) (by assumption) ?rest3
    case hy3 =>
      intro w' hSw
      have hSw : Mods S w1 w' := hSw
      clear hSw
      go_simp
      try with_reducible rfl
    change wpAnyH _ _ _ _ _ _ _ (Act.put _ (some 20) _) _
    try simp only [Act.put, List.setIfInBounds_toArray, List.set_cons_zero, List.set_cons_succ]
    refine wpAnyH_take (i := 3) (v := ?vv4) (by rfl) (by kernel_rfl) (by kernel_rfl) (by kernel_rfl) (by intro _ _ _ h; exact h) (Or.inl ⟨by kernel_rfl, ?hy4⟩) (by assumption) ?rest4
    case hy4 =>
      intro w' hSw
      have hSw : Mods S w1 w' := hSw
      clear hSw
      go_simp
      try with_reducible rfl
    change wpAnyH _ _ _ _ _ _ _ (Act.put _ (some 21) _) _
    try simp only [Act.put, List.setIfInBounds_toArray, List.set_cons_zero, List.set_cons_succ]
    refine wpAnyH_take (i := 4) (v := ?vv5) (by rfl) (by kernel_rfl) (by kernel_rfl) (by kernel_rfl) (by intro _ _ _ h; exact h) (Or.inl ⟨by kernel_rfl, ?hy5⟩) (by assumption) ?rest5
    case hy5 =>
      intro w' hSw
      have hSw : Mods S w1 w' := hSw
      clear hSw
      go_simp
      try with_reducible rfl
    change wpAnyH _ _ _ _ _ _ _ (Act.put _ (some 22) _) _
    try simp only [Act.put, List.setIfInBounds_toArray, List.set_cons_zero, List.set_cons_succ]
    refine wpAnyH_take (i := 6) (v := ?vv6) (by rfl) (by kernel_rfl) (by kernel_rfl) (by kernel_rfl) (by intro _ _ _ h; exact h) (Or.inl ⟨by kernel_rfl, ?hy6⟩) (by assumption) ?rest6
    case hy6 =>
      intro w' hSw
      have hSw : Mods S w1 w' := hSw
      clear hSw
      go_simp
      try with_reducible rfl
    change wpAnyH _ _ _ _ _ _ _ (Act.put _ (some 24) _) _
    try simp only [Act.put, List.setIfInBounds_toArray, List.set_cons_zero, List.set_cons_succ]
    refine wpAnyH_take (i := 13) (v := ?vv7) (by rfl) (by kernel_rfl) (by kernel_rfl) (by kernel_rfl) (by intro _ _ _ h; exact h) (Or.inl ⟨by kernel_rfl, ?hy7⟩) (by assumption) ?rest7
    case hy7 =>
      intro w' hSw
      have hSw : Mods S w1 w' := hSw
      clear hSw
      go_simp
      try with_reducible rfl
    change wpAnyH _ _ _ _ _ _ _ (Act.put _ (some 31) _) _
    try simp only [Act.put, List.setIfInBounds_toArray, List.set_cons_zero, List.set_cons_succ]
    refine wpAnyH_take (i := 14) (v := ?vv8) (by rfl) (by kernel_rfl) (by kernel_rfl) (by kernel_rfl) (by intro _ _ _ h; exact h) (Or.inl ⟨by kernel_rfl, ?hy8⟩) (by assumption) ?rest8
    case hy8 =>
      intro w' hSw
      have hSw : Mods S w1 w' := hSw
      have hc := Frm.str_at' (HB.out w' (HM.out.trans hSw (fun x hx _ => hx)))
      clear hSw
      go_simp
      try with_reducible rfl
    change wpAnyH _ _ _ _ _ _ _ (Act.put _ (some 32) _) _
    try simp only [Act.put, List.setIfInBounds_toArray, List.set_cons_zero, List.set_cons_succ]
    refine wpAnyH_ready (rs := [5]) (by kernel_rfl) (by simp) ?_
    refine AllReadyH.cons (o := _) rfl (fun K hK => ?_) ?_
    · have hx := HCS.out.1
      go_simp
      clear hx
      have hb := hHeld
      refine hK.out _ _ hb (fun _ => ?_)
      clear hK K hHeld
      have hHeld : Mods S w1 xs := hb
      clear hb
      try simp only [Act.put, List.setIfInBounds_toArray, List.set_cons_zero, List.set_cons_succ]
      refine wpAnyH_take (i := 7) (v := ?vv9) (by rfl) (by kernel_rfl) (by kernel_rfl) (by kernel_rfl) (by intro _ _ _ h; exact h) (Or.inl ⟨by kernel_rfl, ?hy9⟩) (by assumption) ?rest9
      case hy9 =>
        intro w' hSw
        have hSw : Mods S w1 w' := hSw
        clear hSw
        go_simp
        try with_reducible rfl
      change wpAnyH _ _ _ _ _ _ _ (Act.put _ (some 25) _) _
      try simp only [Act.put, List.setIfInBounds_toArray, List.set_cons_zero, List.set_cons_succ]
      refine wpAnyH_ready (rs := [8]) (by kernel_rfl) (by simp) ?_
      refine AllReadyH.cons (o := _) rfl (fun K hK => ?_) ?_
      · have hx := HCS.out.2.1
        go_simp
        clear hx
        have hb := hHeld
        refine hK.out _ _ hb (fun _ => ?_)
        clear hK K hHeld
        have hHeld : Mods S w1 xs := hb
        clear hb
        try simp only [Act.put, List.setIfInBounds_toArray, List.set_cons_zero, List.set_cons_succ]
        refine wpAnyH_take (i := 9) (v := ?vv10) (by rfl) (by kernel_rfl) (by kernel_rfl) (by kernel_rfl) (by intro _ _ _ h; exact h) (Or.inl ⟨by kernel_rfl, ?hy10⟩) (by assumption) ?rest10
        case hy10 =>
          intro w' hSw
          have hSw : Mods S w1 w' := hSw
          clear hSw
          go_simp
          try with_reducible rfl
        change wpAnyH _ _ _ _ _ _ _ (Act.put _ (some 27) _) _
        try simp only [Act.put, List.setIfInBounds_toArray, List.set_cons_zero, List.set_cons_succ]
        refine wpAnyH_take (i := 10) (v := ?vv11) (by rfl) (by kernel_rfl) (by kernel_rfl) (by kernel_rfl) (by intro _ _ _ h; exact h) (Or.inl ⟨by kernel_rfl, ?hy11⟩) (by assumption) ?rest11
        case hy11 =>
          intro w' hSw
          have hSw : Mods S w1 w' := hSw
          clear hSw
          go_simp
          try with_reducible rfl
        change wpAnyH _ _ _ _ _ _ _ (Act.put _ (some 28) _) _
        try simp only [Act.put, List.setIfInBounds_toArray, List.set_cons_zero, List.set_cons_succ]
        refine wpAnyH_ready (rs := [11]) (by kernel_rfl) (by simp) ?_
        refine AllReadyH.cons (o := _) rfl (fun K hK => ?_) ?_
        · have hx := HCS.out.2.2
          go_simp
          clear hx
          have hb := hHeld
          refine hK.out _ _ hb (fun _ => ?_)
          clear hK K hHeld
          have hHeld : Mods S w1 xs := hb
          clear hb
          try simp only [Act.put, List.setIfInBounds_toArray, List.set_cons_zero, List.set_cons_succ]
          refine wpAnyH_take (i := 12) (v := ?vv12) (by rfl) (by kernel_rfl) (by kernel_rfl) (by kernel_rfl) (by intro _ _ _ h; exact h) (Or.inl ⟨by kernel_rfl, ?hy12⟩) (by assumption) ?rest12
          case hy12 =>
            intro w' hSw
            have hSw : Mods S w1 w' := hSw
            clear hSw
            go_simp
            try with_reducible rfl
          change wpAnyH _ _ _ _ _ _ _ (Act.put _ (some 30) _) _
          try simp only [Act.put, List.setIfInBounds_toArray, List.set_cons_zero, List.set_cons_succ]
          refine wpAnyH_take (i := 15) (v := ?vv13) (by rfl) (by kernel_rfl) (by kernel_rfl) (by kernel_rfl) (by intro _ _ _ h; exact h) (Or.inl ⟨by kernel_rfl, ?hy13⟩) (by assumption) ?rest13
          case hy13 =>
            intro w' hSw
            have hSw : Mods S w1 w' := hSw
            clear hSw
            go_simp
            try with_reducible rfl
          change wpAnyH _ _ _ _ _ _ _ (Act.put _ (some 33) _) _
          try simp only [Act.put, List.setIfInBounds_toArray, List.set_cons_zero, List.set_cons_succ]
          refine wpAnyH_ready (rs := [16]) (by kernel_rfl) (by simp) ?_
          refine AllReadyH.cons (o := _) rfl (fun K hK => ?_) ?_
          · go_simp
            refine HWR.out.mono ?_
            intro e yA hdid
            have HR := Lib.hid (hdid.up (HM.out.trans hHeld (fun x hx _ => hx)))
            have hb := hHeld.more hdid.2.2
            obtain ⟨rfl, -, -⟩ := hdid
            go_wp2_with fail
            refine hK.out _ _ hb (fun _ => ?_)
            clear hK K hHeld
            have hHeld : Mods S w1 yA := hb
            clear hb
            try simp only [Act.put, List.setIfInBounds_toArray, List.set_cons_zero, List.set_cons_succ]
            refine wpAnyH_take (i := 17) (v := ?vv14) (by rfl) (by kernel_rfl) (by kernel_rfl) (by kernel_rfl) (by intro _ _ _ h; exact h) (Or.inl ⟨by kernel_rfl, ?hy14⟩) (by assumption) ?rest14
            case hy14 =>
              intro w' hSw
              have hSw : Mods S w1 w' := hSw
              clear hSw
              go_simp
              try with_reducible rfl
            change wpAnyH _ _ _ _ _ _ _ (Act.put _ (some 6) _) _
            try simp only [Act.put, List.setIfInBounds_toArray, List.set_cons_zero, List.set_cons_succ]
            refine wpAnyH_done (by kernel_rfl) ?_ _
            refine NoPanic.normal ?_
            go_wp2_with fail
            go_ret
            rw [HX.out]
            exact HR.out
          exact AllReadyH.nil
        exact AllReadyH.nil
      exact AllReadyH.nil
    exact AllReadyH.nil
  · have HX := Lib.hid (HX0.out.trans (if_pos he))
    have he' : (er != 0) = true := by simp [he]
    clear he
    go_wp2_with fail
    go_ret
    exact ⟨(congrArg (fun r : Dsk × Int => Ending.returned (Value.int .i64 r.2)) HX.out).symm, by rw [HX.out]; exact HD.out.wide (fun y hy => .inl hy), HM.out.mono (fun y hy => .inl hy)⟩
end Vd
end Go.Proofs.Ytchjncnolmiejaa

/- Disk.Rename, Unlink. -/
namespace Go.Proofs.Ytchjncnolmiejaa
open Go.RowKit
namespace Vd
open Go.Maps
theorem give_put_len (l : Nms) (m : Mv) : (giveN l m).length ≤ (dropN l m.node).length + 1 := by
  unfold giveN
  split
  · omega
  · unfold putN
    have := two_lens (fun p : Str × Nat => decide (p.1 < m.name)) (fun p => decide (m.name < p.1)) (apartS m.name) (dropN l m.node)
    simp only [List.length_append, List.length_cons]
    omega
theorem give_len_in {l : Nms} {m : Mv} {x : Str} (h : (x, m.node) ∈ l) : (giveN l m).length ≤ l.length := by
  have h1 := give_put_len l m
  have h2 : (dropN l m.node).length < l.length := List.length_filter_lt_length_iff_exists.2 ⟨_, h, by simp⟩
  omega
set_option maxRecDepth 100000 in
set_option maxHeartbeats 4000000 in
theorem rename_any (w : World) {S : Nat → Prop} {g : Nat} {d : Dsk} (h : DiskAt w S g d) (hn : -1 ≤ d.count ∧ d.count ≤ 9000000000000000000) (x y : Str) (hx : x.length ≤ 9000000000000000000) (hy : y.length ≤ 9000000000000000000) (hml : d.moves.length ≤ 1000000000) : Calls Try.prog 59 #[.pointer (some ⟨g, 0, none⟩), .string (bstr x), .string (bstr y)] w fun e w' => DskDid w (More S w w') g (renameD d x y) e w' := by
  have HC := Lib.hid (change_any w h hn)
  have HSE := Lib.hid (changeD_seen d)
  have HX0 : Hid (renameD d x y = if (changeD d).2 ≠ 0 then changeD d
    else if namedB y = false then ((changeD d).1, 3)
    else if (look d.seen x).isSome then (turnD (changeD d).1 ⟨(look d.seen x).getD 0, y, false⟩, 0)
    else ((changeD d).1, 7)) := Lib.hid rfl
  have HBD := Lib.hid hml
  clear h hml
  unfold DskDid at HC ⊢
  generalize changeD d = cd at *
  obtain ⟨d1, er⟩ := cd
  simp only at HSE HX0
  obtain ⟨e1, e2, e3, e4, e5⟩ := HSE.out
  rw [← e1] at HX0
  rw [← e4] at HBD
  clear HSE e1 e2 e3 e4 e5
  go_enter Try.func59, Try.ntmps59
  go_wp2_with fail
  refine HC.out.mono ?_
  rintro e w1 ⟨rfl, hd, hm⟩
  have HD := Lib.hid (show DiskAt w1 S g d1 from hd)
  have HM := Lib.hid hm
  clear hd hm HC
  by_cases he : er = 0
  · subst he
    have HX1 := Lib.hid (HX0.out.trans (if_neg (by simp)))
    clear HX0
    have HNM := Lib.hid (named_any y (by omega) w1)
    cases hnx : namedB y with
    | false =>
      have HX := Lib.hid (HX1.out.trans (if_pos hnx))
      rw [hnx] at HNM
      clear hnx HX1
      go_wp2_with fail
      refine HNM.out.mono ?_
      rintro e w2 ⟨rfl, rfl⟩
      go_wp2_with fail
      go_ret
      exact ⟨(congrArg (fun r : Dsk × Int => Ending.returned (Value.int .i64 r.2)) HX.out).symm, by rw [HX.out]; exact HD.out.wide (fun y hy => .inl hy), HM.out.mono (fun y hy => .inl hy)⟩
    | true =>
      have HX2 := Lib.hid (HX1.out.trans (if_neg (by simp [hnx])))
      have hy32 := named_32 hnx
      rw [hnx] at HNM
      clear hnx HX1
      have HF := Lib.hid (find_any w1 HD.out x (by unfold maxLen; omega))
      go_wp2_with fail
      refine HNM.out.mono ?_
      rintro e w2 ⟨rfl, rfl⟩
      unfold findE at HF
      cases hlk : look d1.seen x with
      | none =>
        have HX := Lib.hid (HX2.out.trans (if_neg (by rw [hlk]; simp)))
        rw [hlk] at HF
        simp only [Option.getD_none, Option.isSome_none] at HF
        clear hlk HX2
        go_wp2_with fail
        refine HF.out.mono ?_
        rintro e w2 ⟨rfl, rfl⟩
        go_wp2_with fail
        go_ret
        exact ⟨(congrArg (fun r : Dsk × Int => Ending.returned (Value.int .i64 r.2)) HX.out).symm, by rw [HX.out]; exact HD.out.wide (fun y hy => .inl hy), HM.out.mono (fun y hy => .inl hy)⟩
      | some i =>
        have HX : Hid (renameD d x y = (turnD d1 ⟨i, y, false⟩, 0)) := Lib.hid ((HX2.out.trans (if_pos (by rw [hlk]; rfl))).trans (by rw [hlk]; rfl))
        rw [hlk] at HF
        simp only [Option.getD_some, Option.isSome_some] at HF
        have HTN : Hid (Calls Try.prog 46 #[.pointer (some ⟨g, 0, none⟩), .agg #[.int .i64 (i : Int), .string (bstr y), .bool false]] w1 fun e w' => e = .returned (.tuple #[]) ∧ DiskAt w' (More S w1 w') g (turnD d1 ⟨i, y, false⟩) ∧ Mods S w1 w') := Lib.hid (by
          obtain ⟨b1, b2, nv, mv, nb, hd⟩ := HD.out
          have hmem := (look_mem hd.seen.asc).1 hlk
          exact turn_any w1 HD.out ⟨i, y, false⟩ hy32 HBD.out (fit_turn hd.fit hy32 (hd.fit.is _ hmem) (Nat.le_trans (give_len_in (m := ⟨i, y, false⟩) hmem) hd.fit.s1)))
        clear hlk HX2
        go_wp2_with fail
        refine HF.out.mono ?_
        rintro e w2 ⟨rfl, rfl⟩
        go_wp2_with fail
        refine HTN.out.mono ?_
        rintro e w2 ⟨rfl, hd2, hm2⟩
        have HD2 := Lib.hid hd2
        have HM2 := Lib.hid hm2
        clear hd2 hm2 HTN
        go_wp2_with fail
        go_ret
        exact ⟨(congrArg (fun r : Dsk × Int => Ending.returned (Value.int .i64 r.2)) HX.out).symm, by rw [HX.out]; exact HD2.out.more HM.out, (HM.out.trans HM2.out (fun y hy _ => hy)).mono (fun y hy => .inl hy)⟩
  · have HX := Lib.hid (HX0.out.trans (if_pos he))
    have he' : (er != 0) = true := by simp [he]
    clear he
    go_wp2_with fail
    go_ret
    exact ⟨(congrArg (fun r : Dsk × Int => Ending.returned (Value.int .i64 r.2)) HX.out).symm, by rw [HX.out]; exact HD.out.wide (fun y hy => .inl hy), HM.out.mono (fun y hy => .inl hy)⟩

set_option maxRecDepth 100000 in
set_option maxHeartbeats 4000000 in
theorem unlink_any (w : World) {S : Nat → Prop} {g : Nat} {d : Dsk} (h : DiskAt w S g d) (hn : -1 ≤ d.count ∧ d.count ≤ 9000000000000000000) (x : Str) (hx : x.length ≤ maxLen) (hml : d.moves.length ≤ 1000000000) : Calls Try.prog 61 #[.pointer (some ⟨g, 0, none⟩), .string (bstr x)] w fun e w' => DskDid w (More S w w') g (unlinkD d x) e w' := by
  have HT := Lib.hid (touch_any w h hn x hx)
  have HIN : Hid ((touchD d x).2.2 = 0 → (touchD d x).2.1 < (touchD d x).1.nodes.length ∧ (x, (touchD d x).2.1) ∈ (touchD d x).1.seen) := Lib.hid (fun hh => by
    obtain ⟨b1, b2, nv, mv, nb, h⟩ := h
    exact touch_seen h.fit h.seen.asc hh)
  have HML : Hid ((touchD d x).1.moves.length ≤ 1000000000) := Lib.hid (by rw [(touch_nodes d x).2]; exact hml)
  have HX0 : Hid (unlinkD d x = if (touchD d x).2.2 ≠ 0 then ((touchD d x).1, (touchD d x).2.2)
    else (turnD (touchD d x).1 ⟨(touchD d x).2.1, [], false⟩, 0)) := Lib.hid rfl
  clear h hml
  unfold TouchDid at HT
  unfold DskDid
  generalize touchD d x = td at *
  obtain ⟨d1, i, er⟩ := td
  go_enter Try.func61, Try.ntmps61
  go_wp2_with fail
  refine HT.out.mono ?_
  rintro e w1 ⟨rfl, hd, hm⟩
  have HD := Lib.hid (show DiskAt w1 S g d1 from hd)
  have HM := Lib.hid hm
  clear hd hm HT
  by_cases he : er = 0
  · subst he
    obtain ⟨hin, hse⟩ := HIN.out rfl
    have HX := Lib.hid (HX0.out.trans (if_neg (by simp)))
    have HTN : Hid (Calls Try.prog 46 #[.pointer (some ⟨g, 0, none⟩), .agg #[.int .i64 (i : Int), .string (bstr []), .bool false]] w1 fun e w' => e = .returned (.tuple #[]) ∧ DiskAt w' (More S w1 w') g (turnD d1 ⟨i, [], false⟩) ∧ Mods S w1 w') := Lib.hid (by
      obtain ⟨b1, b2, nv, mv, nb, hd⟩ := HD.out
      exact turn_any w1 HD.out ⟨i, [], false⟩ (by simp) HML.out (fit_turn hd.fit (by simp) hin (Nat.le_trans (give_len_in (m := ⟨i, [], false⟩) hse) hd.fit.s1)))
    clear hin hse HIN HX0
    go_wp2_with fail
    refine HTN.out.mono ?_
    rintro e w2 ⟨rfl, hd2, hm2⟩
    have HD2 := Lib.hid hd2
    have HM2 := Lib.hid hm2
    clear hd2 hm2 HTN
    go_wp2_with fail
    go_ret
    exact ⟨(congrArg (fun r : Dsk × Int => Ending.returned (Value.int .i64 r.2)) HX.out).symm, by rw [HX.out]; exact HD2.out.more HM.out, (HM.out.trans HM2.out (fun y hy _ => hy)).mono (fun y hy => .inl hy)⟩
  · have HX := Lib.hid (HX0.out.trans (if_pos he))
    have he' : (er == 0) = false := by simp [he]
    clear he
    go_wp2_with fail
    go_ret
    exact ⟨(congrArg (fun r : Dsk × Int => Ending.returned (Value.int .i64 r.2)) HX.out).symm, by rw [HX.out]; exact HD.out.wide (fun y hy => .inl hy), HM.out.mono (fun y hy => .inl hy)⟩
end Vd
end Go.Proofs.Ytchjncnolmiejaa

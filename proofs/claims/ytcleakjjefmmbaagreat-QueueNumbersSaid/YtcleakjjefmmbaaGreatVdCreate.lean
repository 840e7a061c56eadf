/- Create. -/
import Derived.Test.YtcleakjjefmmbaaGreatK21
namespace Go.Proofs.YtcleakjjefmmbaaGreat
open Go.RowKit
namespace Vd
open Go.Maps
def createD (d : Dsk) (x : Str) : Dsk × Int :=
 if (changeD d).2 ≠ 0 then changeD d
 else if namedB x = false then ((changeD d).1, 3)
 else if (look d.seen x).isSome then ((changeD d).1, 8)
 else if d.seen.length = 1024 then ((changeD d).1, 6)
 else (turnD (bornD (changeD d).1) ⟨d.nodes.length, x, true⟩, 0)
theorem nodok : ElemOkS Tryz.prog 86 92 1 8 := elemOkS (z := .pointer none) Tryz.underlying86 (by kernel_rfl) rfl
theorem bytesN_born (d : Dsk) (h : ∀ p ∈ d.seen, p.2 < d.nodes.length) : bytesN (bornD d).nodes d.seen = bytesN d.nodes d.seen := by
 unfold bytesN
 congr 1
 refine List.map_congr_left (fun p hp => ?_)
 have := h p hp
 simp [bornD, List.getElem?_append_left this]
theorem two_filters {α : Type} (f : α → Nat) (A B : α → Bool) (hAB : ∀ x, A x = true → B x = false) (l : List α) : ((l.filter A).map f).sum + ((l.filter B).map f).sum ≤ (l.map f).sum := by
 induction l with
 |nil => simp
 |cons a l ih =>
  cases ha : A a
  ·cases hb : B a
   ·simp [List.filter_cons, ha, hb]; omega
   ·simp [List.filter_cons, ha, hb]; omega
  ·have hb := hAB a ha
   simp [List.filter_cons, ha, hb]; omega
theorem two_lens {α : Type} (A B : α → Bool) (hAB : ∀ x, A x = true → B x = false) (l : List α) : (l.filter A).length + (l.filter B).length ≤ l.length := by
 have := two_filters (fun _ => 1) A B hAB l
 simpa [List.map_const', List.sum_replicate_nat] using this
theorem apartS (x : Str) (p : Str × Nat) (h : decide (p.1 < x) = true) : decide (x < p.1) = false := by
 simp at h ⊢
 exact Std.le_of_lt h
theorem give_len (l : Nms) (m : Mv) : (giveN l m).length ≤ l.length + 1 := by
 have h1 : (dropN l m.node).length ≤ l.length := List.length_filter_le _ _
 unfold giveN
 split
 ·omega
 ·unfold putN
  have := two_lens (fun p : Str × Nat => decide (p.1 < m.name)) (fun p => decide (m.name < p.1)) (apartS m.name) (dropN l m.node)
  simp only [List.length_append, List.length_cons]
  omega
theorem give_mem {l : Nms} {m : Mv} {p : Str × Nat} (h : p ∈ giveN l m) : p ∈ l ∨ p = (m.name, m.node) := by
 unfold giveN at h
 split at h
 ·exact .inl (List.mem_filter.1 h).1
 ·unfold putN at h
  rcases List.mem_append.1 h with h | h
  ·exact .inl (List.mem_filter.1 (List.mem_filter.1 h).1).1
  ·rcases List.mem_cons.1 h with h | h
   ·exact .inr h
   ·exact .inl (List.mem_filter.1 (List.mem_filter.1 h).1).1
theorem give_bytes (nodes : List Nod) (l : Nms) (m : Mv) : bytesN nodes (giveN l m) ≤ bytesN nodes l + ((nodes[m.node]?).map (·.seen.length)).getD 0 := by
 have h1 : bytesN nodes (dropN l m.node) ≤ bytesN nodes l := by
  have := two_filters (fun p : Str × Nat => ((nodes[p.2]?).map (·.seen.length)).getD 0) (fun p => decide (p.2 ≠ m.node)) (fun _ => false) (fun _ _ => rfl) l
  unfold bytesN dropN
  omega
 unfold giveN
 split
 ·omega
 ·have := two_filters (fun p : Str × Nat => ((nodes[p.2]?).map (·.seen.length)).getD 0) (fun p => decide (p.1 < m.name)) (fun p => decide (m.name < p.1)) (apartS m.name) (dropN l m.node)
  unfold bytesN at h1 ⊢
  unfold putN
  simp only [List.map_append, List.map_cons, List.sum_append, List.sum_cons]
  omega
theorem fit_create {d : Dsk} (h : Fit d) {x : Str} (hx : x.length ≤ 32) (hl : d.seen.length < 1024) : Fit (bornD d) ∧ Fit (turnD (bornD d) ⟨d.nodes.length, x, true⟩) := by
 have hb := bytesN_born d h.is
 have hlen : (bornD d).nodes.length = d.nodes.length + 1 := by simp [bornD]
 have f1 : Fit (bornD d) := { h with
  is := fun p hp => by have := h.is p hp; omega
  iu := fun p hp => by have := h.iu p hp; omega
  im := fun p hp => by have := h.im p hp; omega
  ns := fun y hy => by
   rcases List.mem_append.1 hy with hy | hy
   ·exact h.ns y hy
   ·simp at hy; subst hy; simp [newN]
  ps := fun y hy p hp => by
   rcases List.mem_append.1 hy with hy | hy
   ·exact h.ps y hy p hp
   ·simp at hy; subst hy; simp [newN] at hp
  fr := by have := h.fr; show (bytesN (bornD d).nodes d.seen : Int) ≤ _; rw [hb]; exact this }
 refine ⟨f1, { f1 with
  s1 := ?_
  is := fun p hp => ?_
  im := fun p hp => ?_
  nm := fun p hp => ?_
  fr := ?_ }⟩
 ·have := give_len d.seen ⟨d.nodes.length, x, true⟩
  show (giveN d.seen _).length ≤ 1024
  omega
 ·show p.2 < (bornD d).nodes.length
  rcases give_mem hp with hp | rfl
  ·exact f1.is p hp
  ·simp [hlen]
 ·show p.node < (bornD d).nodes.length
  rcases List.mem_append.1 hp with hp | hp
  ·exact f1.im p hp
  ·simp at hp; subst hp; simp [hlen]
 ·rcases List.mem_append.1 hp with hp | hp
  ·exact f1.nm p hp
  ·simp at hp; subst hp; exact hx
 ·have h1 := give_bytes (bornD d).nodes d.seen ⟨d.nodes.length, x, true⟩
  have h2 : ((bornD d).nodes[d.nodes.length]?).map (·.seen.length) = some 0 := by simp [bornD, newN]
  have h3 := h.fr
  show (bytesN (bornD d).nodes (giveN d.seen _) : Int) ≤ _
  simp only [h2, Option.getD_some] at h1
  omega
theorem named_32 {x : Str} (h : namedB x = true) : x.length ≤ 32 := by
 unfold namedB at h
 simp at h
 omega
theorem _root_.Go.Proofs.YtcleakjjefmmbaaGreat.Mods.more {S : Nat → Prop} {w w1 w2 : World} (h : Mods S w w1) (k : Mods (More S w1 w2) w1 w2) : Mods S w w2 := h.trans k (fun x hx hlt => hx.elim id (fun hh => by have := h.size; omega))
theorem DiskAt.more {S : Nat → Prop} {w w1 w2 : World} {g : Nat} {d : Dsk} (h : DiskAt w2 (More S w1 w2) g d) (k : Mods S w w1) : DiskAt w2 (More S w w2) g d := h.wide (fun y hy => hy.imp id (fun hh => ⟨Nat.le_trans k.size hh.1, hh.2⟩))
theorem _root_.Go.Proofs.YtcleakjjefmmbaaGreat.Mods.step {S : Nat → Prop} {w w1 w2 : World} (h : Mods S w w1) (k : Mods (More S w w1) w1 w2) : Mods S w w2 := h.trans k (fun x hx hlt => hx.elim id (fun hh => by have := h.size; omega))
theorem DiskAt.nest {S : Nat → Prop} {w w1 w2 : World} {g : Nat} {d : Dsk} (h : DiskAt w2 (More (More S w w1) w1 w2) g d) {T T' : Nat → Prop} (k : Mods T w w1) (k2 : Mods T' w1 w2) : DiskAt w2 (More S w w2) g d := h.wide (fun y hy => by
 have h1 := k.size
 have h2 := k2.size
 rcases hy with (hy | hy) | hy
 ·exact .inl hy
 ·exact .inr ⟨hy.1, Nat.lt_of_lt_of_le hy.2 h2⟩
 ·exact .inr ⟨Nat.le_trans h1 hy.1, hy.2⟩)
theorem turnD_len (d : Dsk) (m : Mv) : (turnD d m).moves.length = d.moves.length + 1 := by simp [turnD]
set_option maxRecDepth 100000 in
set_option maxHeartbeats 4000000 in
theorem create_any (w : World) {S : Nat → Prop} {g : Nat} {d : Dsk} (h : DiskAt w S g d) (hn : -1 ≤ d.count ∧ d.count ≤ 9000000000000000000) (x : Str) (hx : x.length ≤ 9000000000000000000) (hml : d.moves.length ≤ 1000000000) (hnl : d.nodes.length ≤ 1000000000) : Calls Tryz.prog 121 #[.pointer (some ⟨g, 0, none⟩), .string (bstr x)] w fun e w' => DskDid w (More S w w') g (createD d x) e w' := by
 have HC := Lib.hid (change_any w h hn)
 have HSE := Lib.hid (changeD_seen d)
 have HX0 : Hid (createD d x = if (changeD d).2 ≠ 0 then changeD d
  else if namedB x = false then ((changeD d).1, 3)
  else if (look d.seen x).isSome then ((changeD d).1, 8)
  else if d.seen.length = 1024 then ((changeD d).1, 6)
  else (turnD (bornD (changeD d).1) ⟨d.nodes.length, x, true⟩, 0)) := Lib.hid rfl
 have HBD := Lib.hid (And.intro hml hnl)
 clear h hml hnl
 unfold DskDid at HC ⊢
 generalize changeD d = cd at *
 obtain ⟨d1, er⟩ := cd
 simp only at HSE HX0
 obtain ⟨e1, e2, e3, e4, e5⟩ := HSE.out
 rw [← e1, ← e2] at HX0
 rw [← e4, ← e2] at HBD
 clear HSE e1 e2 e3 e4 e5
 go_enter Tryz.func121, Tryz.ntmps121
 go_wp2_with fail
 refine HC.out.mono ?_
 rintro e w1 ⟨rfl, hd, hm⟩
 have HD := Lib.hid (show DiskAt w1 S g d1 from hd)
 have HM := Lib.hid hm
 clear hd hm HC
 by_cases he : er = 0
 ·subst he
  have HX1 := Lib.hid (HX0.out.trans (if_neg (by simp)))
  clear HX0
  have HNM := Lib.hid (named_any x (by omega) w1)
  cases hnx : namedB x with
  |false =>
   have HX := Lib.hid (HX1.out.trans (if_pos hnx))
   rw [hnx] at HNM
   clear hnx HX1
   go_wp2_with fail
   refine HNM.out.mono ?_
   rintro e w2 ⟨rfl, rfl⟩
   go_wp2_with fail
   go_ret
   exact ⟨(congrArg (fun r : Dsk × Int => Ending.returned (Value.int .i64 r.2)) HX.out).symm, by rw [HX.out]; exact HD.out.wide (fun y hy => .inl hy), HM.out.mono (fun y hy => .inl hy)⟩
  |true =>
   have HX2 := Lib.hid (HX1.out.trans (if_neg (by simp [hnx])))
   have HNX := Lib.hid hnx
   rw [hnx] at HNM
   clear hnx HX1
   obtain ⟨b1, b2, nv, mv, nb, hd⟩ := HD.out
   have hl := hd.seen.look_ok (x := x) (by unfold maxLen; omega)
   obtain ⟨-, c1, c2, -⟩ := hd.cells
   have hlen := hd.seen.len 3
   have HDI := Lib.hid hd
   clear hd
   go_wp2_with fail
   refine HNM.out.mono ?_
   rintro e w2 ⟨rfl, rfl⟩
   cases hlk : look d1.seen x with
   |some i =>
    have HX := Lib.hid (HX2.out.trans (if_pos (by rw [hlk]; rfl)))
    rw [hlk] at hl
    simp only [Option.getD_some, Option.isSome_some] at hl
    clear hlk HX2
    go_wp2_with fail
    go_ret
    exact ⟨(congrArg (fun r : Dsk × Int => Ending.returned (Value.int .i64 r.2)) HX.out).symm, by rw [HX.out]; exact HD.out.wide (fun y hy => .inl hy), HM.out.mono (fun y hy => .inl hy)⟩
   |none =>
    have HX3 := Lib.hid (HX2.out.trans (if_neg (by rw [hlk]; simp)))
    rw [hlk] at hl
    simp only [Option.getD_none, Option.isSome_none] at hl
    clear hlk HX2
    by_cases hfull : d1.seen.length = 1024
    ·have HX := Lib.hid (HX3.out.trans (if_pos hfull))
     have ht : ((d1.seen.length : Int) == 1024) = true := by simp [hfull]
     clear hfull HX3
     go_wp2_with fail
     go_ret
     exact ⟨(congrArg (fun r : Dsk × Int => Ending.returned (Value.int .i64 r.2)) HX.out).symm, by rw [HX.out]; exact HD.out.wide (fun y hy => .inl hy), HM.out.mono (fun y hy => .inl hy)⟩
    ·have HX := Lib.hid (HX3.out.trans (if_neg hfull))
     have ht : ((d1.seen.length : Int) == 1024) = false := by simp; omega
     have hx32 : x.length ≤ 32 := named_32 HNX.out
     have HF := Lib.hid (fit_create HDI.out.fit hx32 (by have := HDI.out.fit.s1; omega))
     have hnl := HBD.out.2
     obtain ⟨po, cap, rfl, -, -⟩ := Frm.ownsRow_form HDI.out.row
     have hln : nb.length = d1.nodes.length := HDI.out.len
     rw [hln] at c1
     have HR := Lib.hid HDI.out.row
     have HG := Lib.hid HDI.out.blk
     rw [hln] at HR HG
     have HNG : Hid ((Value.slice po d1.nodes.length cap).ownBlock ≠ some g) := Lib.hid (by rw [← hln]; exact HDI.out.ng.2.2.1)
     have HLN := Lib.hid hln
     rw [hln] at HDI
     have HNO : Hid ((Value.slice po d1.nodes.length cap).ownBlock ≠ some w1.heap.size) := Lib.hid (fun e => by have := (owns_ty HR.out e).lt; omega)
     have HNE : Hid (w1.heap.size ≠ g) := Lib.hid (fun e => by have := HG.out.lt; omega)
     generalize d1.nodes.length = n at *
     clear hfull HX3 hln
     go_upto_region 12 with (at_builtin; refine wpList_apps (base := 0) nodok (by decide) rfl _ _ rfl (.slice po n cap) (.slice (some ⟨w1.heap.size + 1, 0, none⟩) 1 1) n 1 (nb.map fun p => Value.pointer (some ⟨p.1, 0, none⟩)) [.pointer (some ⟨w1.heap.size, 0, none⟩)] rfl rfl (Frm.ownsRow_keeps HR.out (((Keeps.refl _).alloc _).alloc _)) (Frm.rowS_lit (by rw [Frm.alloc_size]) rfl rfl) (by simp [Value.oneCell']) (by omega) (by decide) (Nat.zero_le _) ?_; intro v2 w2 ho2 hg2 hf2; obtain ⟨p2, q2, rfl, -, -⟩ := Frm.ownsRow_form ho2; have hG2 := ((HG.out.alloc _).alloc _).grown hg2 HNG.out; have hm2 : w2.cell? ⟨g, 1, none⟩ = some (.slice po n cap) := by { rw [hG2.cell]; rfl }; have hz2 : w2.frozen? ⟨g, 1, none⟩ = false := hG2.frozen 1; have HG2 := Lib.hid hG2; have HN2 := Lib.hid (((Blk.new w1 _ _ rfl).alloc _).grown hg2 (fun e => HNO.out e)); have HO2 := Lib.hid ho2; have HM2 := Lib.hid ((((Mods.refl (fun y => y = g ∨ (Value.slice po n cap).ownBlock = some y) w1).alloc _).alloc _).grown hg2 (fun k hk _ => .inr hk)); have HF2 := Lib.hid hf2; clear ho2 hg2 hf2 hG2)
     have HG3 := Lib.hid (show Blk (World.setCell w2 ⟨g, 1, none⟩ (.slice p2 (n + 1) q2)) g 89 (diskA d1 (.slice p2 (n + 1) q2) b1 b2 mv) from HG2.out.set_ 1 _)
     have HN3 := Lib.hid (HN2.out.far (p := ⟨g, 1, none⟩) (fun e => HNE.out e) (.slice p2 (n + 1) q2))
     have HO3 := Lib.hid (Frm.ownsRow_mods (S := fun x => x = g) HO2.out ((Mods.refl (fun x => x = g) _).setCell (p := ⟨g, 1, none⟩) (fun _ => rfl) (.slice p2 (n + 1) q2)) (fun x hx e => Frm.ownsRow_ne HO2.out HG2.out (by decide) (by rw [hx, e])))
     have HM3 := Lib.hid (HM2.out.setCell (p := ⟨g, 1, none⟩) (fun _ => .inl rfl) (.slice p2 (n + 1) q2))
     clear c1 c2 hm2 hz2 hl hlen HN2 HO2 HM2 HG2
     generalize World.setCell w2 ⟨g, 1, none⟩ (.slice p2 (n + 1) q2) = w3 at *
     have HB3 := Lib.hid (HDI.out.born HM3.out (fun y hy => hy) (k := w1.heap.size) (Nat.le_refl _) HG3.out ⟨HN3.out, World.ownsRow_nil _ _ _ 2⟩ (by have := HO3.out; rw [← HLN.out] at this; simpa [HLN.out] using this) (fun y hy => (HF2.out y hy).imp id (fun hh => ⟨Nat.le_trans (by rw [Frm.alloc_size, Frm.alloc_size]; omega) hh, (owns_ty HO3.out hy).lt⟩)) HF.out.1)
     have c3 : w3.cell? ⟨g, 1, none⟩ = some (.slice p2 (n + 1) q2) := by rw [HG3.out.cell]; rfl
     have hw1 : IntKind.i64.wrap ((n : Int) + 1 - 1) = (n : Int) := by rw [IntKind.wrap_i64]; omega
     have HTN := Lib.hid (turn_any w3 ⟨_, _, _, _, _, HB3.out⟩ ⟨n, x, true⟩ hx32 HBD.out.1 HF.out.2)
     clear HG3 HN3 HO3 HR HG
     go_wp2_with fail
     refine HTN.out.mono ?_
     rintro e w4 ⟨rfl, hd4, hm4⟩
     have HD4 := Lib.hid hd4
     have HM4 := Lib.hid hm4
     clear hd4 hm4 HTN c3 hw1
     go_wp2_with fail
     go_ret
     have hm13 : Mods S w1 w3 := HM3.out.mono (fun y hy => by
      rcases hy with rfl | hy
      ·exact HDI.out.sg
      ·exact HDI.out.sn _ hy)
     have hm14 : Mods S w1 w4 := hm13.step HM4.out
     exact ⟨(congrArg (fun r : Dsk × Int => Ending.returned (Value.int .i64 r.2)) HX.out).symm, by rw [HX.out]; exact (HD4.out.nest hm13 HM4.out).more HM.out, (HM.out.more (hm14.mono (fun y hy => .inl hy))).mono (fun y hy => .inl hy)⟩
 ·have HX := Lib.hid (HX0.out.trans (if_pos he))
  have he' : (er != 0) = true := by simp [he]
  clear he
  go_wp2_with fail
  go_ret
  exact ⟨(congrArg (fun r : Dsk × Int => Ending.returned (Value.int .i64 r.2)) HX.out).symm, by rw [HX.out]; exact HD.out.wide (fun y hy => .inl hy), HM.out.mono (fun y hy => .inl hy)⟩
end Vd
end Go.Proofs.YtcleakjjefmmbaaGreat

/- The reference of Wrap. -/
import Derived.Test.YtkbibhlfehamgaaK17
import Derived.Deep.Draws
import Derived.Deep.RegionHeld3
namespace Go.Proofs.Ytkbibhlfehamgaa
open Go.RowKit
namespace Frm
open Oct

theorem bstr_append (a b : List UInt8) : bstr a ++ bstr b = bstr (a ++ b) := by
 apply ByteArray.ext
 apply Array.ext'
 simp [bstr]

theorem bytes_keeps (w : World) (e : TypeId) (s : ByteArray) : Keeps w (Lib.bytesWorld w e s) :=
 ⟨rfl, rfl, rfl, by rw [Lib.bytesWorld_size]; omega, fun k hk => Lib.bytesWorld_at_old w e s k hk⟩
theorem bytes_row (w : World) (e : TypeId) (l : List UInt8) {b n c : Nat} (hb : b = w.heap.size) (hn : n = l.length) (hc : c = grownCap w (bstr l).size 0 e) (hm : l.length ≤ maxLen) : Row (Lib.bytesWorld w e (bstr l)) (.slice (some ⟨b, 0, none⟩) n c) (l.map u8v) := by
 subst hb hn hc
 have hs : (bstr l).size = l.length := bstr_size l
 refine .inr ⟨w.heap.size, 0, grownCap w (bstr l).size 0 e, by simp, by have := grownCap_ge w (bstr l).size 0 e; simpa [hs] using this, grownCap_le_maxLen w (bstr l).size 0 e (by rw [hs]; exact hm), fun i x hx => ?_⟩
 have hi : i < l.length := by
  have := (List.getElem?_eq_some_iff.1 hx).1
  simpa using this
 rw [Nat.zero_add, Lib.bytesWorld_cell w e (bstr l) i (by rw [hs]; exact hi)]
 rw [List.getElem?_map] at hx
 have hl : i < (bstr l).data.toList.length := by simpa [bstr] using hi
 rw [List.getElem?_eq_getElem hi] at hx
 simp only [Option.map_some, Option.some.injEq, u8v] at hx
 rw [← hx, List.getD_eq_getElem?_getD, List.getElem?_eq_getElem hl]
 simp [bstr]

theorem own_at6 {w : World} {base : Nat} {e : TypeId} {v : Value} {l : List UInt8} (h : Own w base e v (l.map u8v)) (hn : 0 < l.length) : ∃ g cap, v = .slice (some ⟨g, 0, none⟩) l.length cap ∧ ∀ i x, (l.map u8v)[i]? = some x → w.cell? ((⟨g, 0, none⟩ : Addr).add i) = some x := by
 have hc : ∀ g cap, v = .slice (some ⟨g, 0, none⟩) (l.map u8v).length cap → ∀ i x, (l.map u8v)[i]? = some x → w.cell? ((⟨g, 0, none⟩ : Addr).add i) = some x := fun g cap he i x hx => by
  subst he
  exact World.ownsRow.cells (h := h) (g := g) rfl i x hx
 have hlen : (l.map u8v).length = l.length := List.length_map _
 rcases h.2 with ⟨rfl, h0⟩ | ⟨g, cap, cur, rfl, hb, hgg, h1, h2, rest⟩
 ·omega
 ·exact ⟨g, cap, by rw [hlen], hc g cap rfl⟩
theorem own_of7 {w : World} {base : Nat} {e : TypeId} {v : Value} {l : List UInt8} (h : w.ownsRow base e 1 v (1 + l.length) ([.int .u8 80] ++ l.map u8v)) : Own w base e v ((80 :: l).map u8v) := by
 unfold Own
 have : ((80 :: l).map u8v).length = 1 + l.length := by simp; omega
 rw [this]
 exact h

theorem step_app {P : Program} {w : World} {ops : Array Oper} {o : Oper} {a : Act} {K : Act → World → Prop} {Q : Exit → Act → World → Prop} {E : Prop} {t e : TypeId} {size bytes base : Nat} (he : ElemOkS P t e size bytes) (hsz : 0 < size) (hgd : o.guard = none) (s x : Operand)
  (ho : o.op = .call { callee := .builtin .append, args := #[s, x], argTypes := #[t, t] })
  (v : Value) (n m c : Nat) (ad : Addr) (xs news : List Value) (hs : a.eval s = v) (hx : a.eval x = .slice (some ad) m c) (hown : w.ownsRow base e size v n xs) (hl : news.length = m * size) (hn : ∀ j u, news[j]? = some u → w.cell? (ad.add j) = some u) (h1 : ∀ u ∈ news, u.oneCell' = true)
  (hb : (n + m) * bytes ≤ 70368744177664) (hbytes : 0 < bytes) (hbase : base ≤ w.heap.size)
  (h : ∀ v' w', w'.ownsRow base e size v' (n + m) (xs ++ news) → w.grownBy w' v.ownBlock → K (a.put o.dst v') w') :
  if Region.wanted o (yielded ops a.tmps) = true then Oper.wp P o a w K Q else E := by
 have hw : Region.wanted o (yielded ops a.tmps) = true := by simp [Region.wanted, hgd]
 rw [if_pos hw]
 have h63 : n + m ≤ 70368744177664 := Nat.le_trans (Nat.le_mul_of_pos_right _ hbytes) hb
 have hml : n + m ≤ maxLen := by unfold maxLen; omega
 obtain ⟨v', w', hr, h2, h3, h4⟩ := run_app (P := P) w o.type he hsz v n xs hown ad m c news hl hn h1 hml (by omega) hbase
 unfold Oper.wp execOp
 simp only [ho, resolve, invoke, builtin, Sem.run_bind, Sem.run_pure, Result.andThen_ok, List.map_toArray, List.map_cons, List.map_nil, hs, hx, hr]
 exact h v' w' h2 h3

set_option maxRecDepth 100000 in
set_option maxHeartbeats 1000000 in
theorem rWrap_any (kind : Int) (v : Value) (p : List UInt8) (w : World) (hr : Row w v (p.map u8v)) : Calls Try.prog 65 #[.int .i64 kind, v] w (RetSI w (wrapL kind p) (wrapE kind p.length)) := by
 obtain ⟨q, cap, rfl, hc1, hc2⟩ := hr.formB
 have HR := Lib.hid hr
 clear hr
 by_cases hk : kind < 0 ∨ 255 < kind
 ·have HE : Hid (RetSI w (wrapL kind p) (wrapE kind p.length) (.returned (.tuple #[.slice none 0 0, .int .i64 1])) w) := Lib.hid (by
   have h1 : wrapE kind p.length = 1 := by simp [wrapE, hk]
   rw [show wrapL kind p = [] from by simp [wrapL, h1], h1]
   exact ⟨_, rfl, Own.nil _ _ _, Keeps.refl _⟩)
  have hk' : kind < 0 ∨ (0 ≤ kind ∧ 255 < kind) := by omega
  clear hk
  rcases hk' with h | ⟨h, h'⟩
  all_goals
   go_enter Try.func65, Try.ntmps65
   go_wp2
   go_ret2
   exact HE.out
 ·obtain ⟨k, rfl⟩ := Int.eq_ofNat_of_zero_le (show 0 ≤ kind by omega)
  have hk5 : (k : Int) ≤ 255 := by omega
  by_cases hbig : 65536 < p.length
  ·have HE : Hid (RetSI w (wrapL k p) (wrapE k p.length) (.returned (.tuple #[.slice none 0 0, .int .i64 4])) w) := Lib.hid (by
    have h1 : wrapE k p.length = 4 := by simp [wrapE, hk, hbig]
    rw [show wrapL k p = [] from by simp [wrapL, h1], h1]
    exact ⟨_, rfl, Own.nil _ _ _, Keeps.refl _⟩)
   clear hk
   go_enter Try.func65, Try.ntmps65
   go_wp2
   go_ret2
   exact HE.out
  ·have hE : wrapE k p.length = 0 := by simp [wrapE, hk, hbig]
   have H : Hid (wrapE k p.length = 0 ∧ wrapL k p = 80 :: veil (body k p)) := Lib.hid ⟨hE, by simp [wrapL, hE]⟩
   have hbl := body_len k p
   have hsl : sumN k p < 4294967296 := Crc.more_lt _ _
   have hvl := (veil_len (body k p)).2
   have hF : bstr (be 1 k) ++ bstr (be 4 p.length) = bstr (front k p.length) := bstr_append _ _
   have hF2 : bstr (front k p.length) ++ bstr p = bstr (front k p.length ++ p) := bstr_append _ _
   have C1 := Lib.hid (fun w => number_any k (by omega) 1 w)
   have C2 := Lib.hid (fun w => number_any p.length (by omega) 4 w)
   rw [putL1 (by omega)] at C1
   rw [putL4 (by omega)] at C2
   have HF := Lib.hid (And.intro hF hF2)
   have hz1 : (bstr (be 1 k)).size = 1 := by rw [bstr_size, be_length]
   have hz4 : (bstr (be 4 p.length)).size = 4 := by rw [bstr_size, be_length]
   have hzp : (bstr p).size = p.length := bstr_size p
   clear hk hE hF hF2
   go_enter Try.func65, Try.ntmps65
   go_wp2_with fail
   refine (C1.out _).mono ?_
   rintro e w1 ⟨rfl, hK1⟩
   go_wp2_with fail
   refine (C2.out _).mono ?_
   rintro e w2 ⟨rfl, hK2⟩
   have HK2 := Lib.hid (hK1.trans hK2)
   have hst := str_at' (HR.out.keeps HK2.out)
   clear hK1 hK2
   go_wp2_with fail
   obtain ⟨m, hm⟩ : ∃ m, front k p.length ++ p = m := ⟨_, rfl⟩
   have hcc : bstr (be 1 k) ++ bstr (be 4 p.length) ++ bstr p = bstr m := by rw [HF.out.1, HF.out.2, hm]
   obtain ⟨c3, w3, hcv, hr3, hK3⟩ := str_bytes (P := Try.prog) w2 Try.underlying22 Try.underlying5 str9 (bstr m) (by rw [bstr_size, ← hm, List.length_append, front_len]; simp [maxLen]; omega)
   rw [hcc, hcv]
   have hr3' : Row w3 _ (m.map u8v) := hr3
   have C3 := Lib.hid (Crc.rOf_any _ _ w3 hr3')
   rw [bstr_size] at C3
   have HK3 := Lib.hid (HK2.out.trans hK3)
   clear hcv hr3 hr3' hst hcc hK3
   rw [bstr_size]
   go_wp2_with fail
   refine C3.out.mono ?_
   rintro e w4 ⟨rfl, rfl⟩
   have C4 := Lib.hid (fun w => number_any (sumN k p) (by omega) 4 w)
   rw [putL4 hsl] at C4
   rw [show sumN k p = Crc.more 0 m from by rw [← hm]; rfl] at C4
   change Hid (∀ w, Calls Try.prog 73 #[.int .u64 ((Crc.more 0 m : Nat) : Int), .int .i64 4] w (fun e w' => e = .returned (.string (bstr (be 4 (Crc.more 0 m)))) ∧ Keeps w w')) at C4
   have hsl' : Crc.more 0 m < 4294967296 := Crc.more_lt _ _
   have hzf : (bstr (front k p.length)).size = 5 := by rw [bstr_size, front_len]
   have hzs : (bstr (be 4 (Crc.more 0 m))).size = 4 := by rw [bstr_size, be_length]
   have ha1 : bstr (front k p.length) ++ bstr (be 4 (Crc.more 0 m)) = bstr (front k p.length ++ be 4 (Crc.more 0 m)) := bstr_append _ _
   have ha2 : bstr (front k p.length ++ be 4 (Crc.more 0 m)) ++ bstr p = bstr (body k p) := by rw [bstr_append, ← hm, List.append_assoc]; rfl
   have hzb : (bstr (body k p)).size = 9 + p.length := by rw [bstr_size, hbl]
   have hza : (bstr (front k p.length ++ be 4 (Crc.more 0 m))).size = 9 := by rw [bstr_size, List.length_append, front_len, be_length]
   have hcv : ∀ w', (convert 9 22 (.string (bstr (body k p)))).run Try.prog w' = .ok (.slice (some ⟨w'.heap.size, 0, none⟩) (9 + p.length) (grownCap w' (9 + p.length) 0 5)) (Lib.bytesWorld w' 5 (bstr (body k p))) := fun w' => by
    have := Lib.run_convert_string_bytes (P := Try.prog) w' 9 22 5 (bstr (body k p)) str9 Try.underlying22 Try.underlying5
    rwa [hzb] at this
   have C6 := Lib.hid (fun (w' : World) (v' : Value) (h : Row w' v' ((body k p).map u8v)) => rVeil_any v' (body k p) w' h (by omega))
   have HBL := Lib.hid hbl
   have HVP : Hid (0 < (veil (body k p)).length) := Lib.hid (by have := (veil_len (body k p)).1; omega)
   have hsz2 : ¬ 9223372036854775807 < 9 + p.length := by omega
   have HCV : Hid (∀ w', Keeps w w' → (convert 22 9 (.slice q p.length cap)).run Try.prog w' = .ok (.string (bstr p)) w') := Lib.hid (fun w' k' => str_at' (HR.out.keeps k'))
   have HZ := Lib.hid hzb
   go_wp2_with fail
   rw [HF.out.1]
   clear C3 C1 C2
   have hwr : IntKind.u64.wrap ((Crc.more 0 m : Nat) : Int) = ((Crc.more 0 m : Nat) : Int) := by
    simp [IntKind.wrap, IntKind.signed, IntKind.bits]; omega
   have C4y : Hid (∀ w (y : Int), y = ((Crc.more 0 m : Nat) : Int) → Calls Try.prog 73 #[.int .u64 y, .int .i64 4] w (fun e w' => e = .returned (.string (bstr (be 4 (Crc.more 0 m)))) ∧ Keeps w w')) := Lib.hid (fun w y hy => by subst hy; exact C4.out w)
   clear C4
   generalize Crc.more 0 m = sm at *
   refine wp_region_noPanic ?_
   refine wp_region_held_drew (S := fun w' => (convert 22 9 (.slice q p.length cap)).run Try.prog w' = .ok (.string (bstr p)) w') (by kernel_rfl) (HCV.out _ (HK3.out.drew)) (fun hHeld => ?_)
   refine wpAnyH_take (i := 1) (v := ?vv1) (by rfl) (by kernel_rfl) (by kernel_rfl) (by kernel_rfl) (by intro _ _ _ h; exact h) (Or.inl ⟨by rfl, ?hy1⟩) (by assumption) ?rest1
   case hy1 => intro w' hSw; (try dsimp only at hSw); go_simp; try with_reducible rfl
   try simp only [Act.put, List.setIfInBounds_toArray, List.set_cons_zero, List.set_cons_succ]
   refine wpAnyH_take (i := 2) (v := ?vv2) (by rfl) (by kernel_rfl) (by kernel_rfl) (by kernel_rfl) (by intro _ _ _ h; exact h) (Or.inl ⟨by rfl, ?hy2⟩) (by assumption) ?rest2
   case hy2 => intro w' hSw; (try dsimp only at hSw); go_simp; try with_reducible rfl
   try simp only [Act.put, List.setIfInBounds_toArray, List.set_cons_zero, List.set_cons_succ]
   refine wpAnyH_take (i := 3) (v := ?vv3) (by rfl) (by kernel_rfl) (by kernel_rfl) (by kernel_rfl) (by intro _ _ _ h; exact h) (Or.inl ⟨by rfl, ?hy3⟩) (by assumption) ?rest3
   case hy3 => intro w' hSw; (try dsimp only at hSw); go_simp; try with_reducible rfl
   try simp only [Act.put, List.setIfInBounds_toArray, List.set_cons_zero, List.set_cons_succ]
   refine wpAnyH_take (i := 6) (v := ?vv4) (by rfl) (by kernel_rfl) (by kernel_rfl) (by kernel_rfl) (by intro _ _ _ h; exact h) (Or.inl ⟨by rfl, ?hy4⟩) (by assumption) ?rest4
   case hy4 => intro w' hSw; (try dsimp only at hSw); go_simp; try with_reducible rfl
   try simp only [Act.put, List.setIfInBounds_toArray, List.set_cons_zero, List.set_cons_succ]
   refine wpAnyH_take (i := 7) (v := ?vv5) (by rfl) (by kernel_rfl) (by kernel_rfl) (by kernel_rfl) (by intro _ _ _ h; exact h) (Or.inl ⟨by rfl, ?hy5⟩) (by assumption) ?rest5
   case hy5 => intro w' hSw; (try dsimp only at hSw); go_simp; try with_reducible rfl
   try simp only [Act.put, List.setIfInBounds_toArray, List.set_cons_zero, List.set_cons_succ]
   refine wpAnyH_ready (rs := [0, 4]) (by kernel_rfl) (by simp) ?_
   refine AllReadyH.cons (o := _) rfl (fun K hK => ?_) ?_
   ·go_simp
    have HOL : Hid (Own (w3.drew.alloc (.cells #[.int .u8 80] 5)) w.heap.size 5 (.slice (some ⟨w3.drew.heap.size, 0, none⟩) 1 1) [.int .u8 80]) := Lib.hid (own_one rfl HK3.out.drew.size)
    refine hK.out _ _ ?_ (fun hHeld => ?_)
    ·exact HCV.out _ (HK3.out.drew.alloc _)
    clear hK K
    try simp only [Act.put, List.setIfInBounds_toArray, List.set_cons_zero, List.set_cons_succ]
    refine wpAnyH_ready (rs := [4]) (by kernel_rfl) (by simp) ?_
    refine AllReadyH.cons (o := _) rfl (fun K hK => ?_) ?_
    ·go_simp
     refine (C4y.out _ _ (by first | rfl | assumption | omega)).mono ?_
     rintro e w5 ⟨rfl, hK5⟩
     have HKA5 : Hid (Keeps w w5) := Lib.hid ((HK3.out.drew.alloc _).trans hK5)
     have HOL := Lib.hid (HOL.out.keeps hK5)
     clear hK5
     go_wp2_with fail
     refine hK.out _ _ ?_ (fun hHeld => ?_)
     ·exact HCV.out _ HKA5.out
     clear hK K
     try simp only [Act.put, List.setIfInBounds_toArray, List.set_cons_zero, List.set_cons_succ]
     refine wpAnyH_take (i := 5) (v := ?vv6) (by rfl) (by kernel_rfl) (by kernel_rfl) (by kernel_rfl) (by intro _ _ _ h; exact h) (Or.inl ⟨by rfl, ?hy6⟩) (by assumption) ?rest6
     case hy6 => intro w' hSw; (try dsimp only at hSw); go_simp; try with_reducible rfl
     try simp only [Act.put, List.setIfInBounds_toArray, List.set_cons_zero, List.set_cons_succ]
     refine wpAnyH_take (i := 8) (v := ?vv7) (by rfl) (by kernel_rfl) (by kernel_rfl) (by kernel_rfl) (by intro _ _ _ h; exact h) (Or.inl ⟨by rfl, ?hy7⟩) (by assumption) ?rest7
     case hy7 => intro w' hSw; (try dsimp only at hSw); go_simp; try with_reducible rfl
     try simp only [Act.put, List.setIfInBounds_toArray, List.set_cons_zero, List.set_cons_succ]
     refine wpAnyH_ready (rs := [9]) (by kernel_rfl) (by simp) ?_
     refine AllReadyH.cons (o := _) rfl (fun K hK => ?_) ?_
     ·go_simp
      refine hK.out _ _ ?_ (fun hHeld => ?_)
      ·exact HCV.out _ (HKA5.out.trans (bytes_keeps _ _ _))
      clear hK K
      try simp only [Act.put, List.setIfInBounds_toArray, List.set_cons_zero, List.set_cons_succ]
      refine wpAnyH_ready (rs := [10]) (by kernel_rfl) (by simp) ?_
      refine AllReadyH.cons (o := _) rfl (fun K hK => ?_) ?_
      ·go_simp
       refine (C6.out _ _ (bytes_row _ _ _ (by simp) HBL.out.symm (by rw [HZ.out]) (by rw [HBL.out]; simp [maxLen]; omega))).mono ?_
       rintro e w6 ⟨v6, rfl, hown6, hK6⟩
       have HKA6 : Hid (Keeps w w6) := Lib.hid ((HKA5.out.trans (bytes_keeps _ _ _)).trans hK6)
       have HOL := Lib.hid ((HOL.out.keeps (bytes_keeps _ _ _)).keeps hK6)
       obtain ⟨g6, c6, rfl, hcl6⟩ := own_at6 hown6 HVP.out
       have HCL := Lib.hid hcl6
       clear hK6 hown6 hcl6
       go_wp2_with fail
       refine hK.out _ _ ?_ (fun hHeld => ?_)
       ·exact HCV.out _ HKA6.out
       clear hK K
       try simp only [Act.put, List.setIfInBounds_toArray, List.set_cons_zero, List.set_cons_succ]
       refine wpAnyH_ready (rs := [11]) (by kernel_rfl) (by simp) ?_
       refine AllReadyH.cons (o := _) rfl (fun K hK => ?_) ?_
       ·refine step_app (base := w.heap.size) u8ok.s (by omega) rfl _ _ rfl _ 1 (veil (body k p)).length c6 ⟨g6, 0, none⟩ [.int .u8 80] ((veil (body k p)).map u8v) rfl rfl HOL.out (by rw [List.length_map, Nat.mul_one]) HCL.out (oneCell_map_u8 _) (by omega) (by omega) HKA6.out.size ?_
        intro v7 w7 ho7 hg7
        have HO7 : Hid (Own w7 w.heap.size 5 v7 ((80 :: veil (body k p)).map u8v)) := Lib.hid (own_of7 ho7)
        have HK7 : Hid (Keeps w w7) := Lib.hid (HKA6.out.grown hg7 (fun x hx => HOL.out.base x hx))
        clear ho7 hg7
        show K (Act.put _ (some 42) v7) w7
        refine hK.out _ _ ?_ (fun hHeld => ?_)
        ·exact HCV.out _ HK7.out
        clear hK K
        try simp only [Act.put, List.setIfInBounds_toArray, List.set_cons_zero, List.set_cons_succ]
        refine wpAnyH_take (i := 12) (v := ?vv8) (by rfl) (by kernel_rfl) (by kernel_rfl) (by kernel_rfl) (by intro _ _ _ h; exact h) (Or.inl ⟨by rfl, ?hy8⟩) (by assumption) ?rest8
        case hy8 => intro w' hSw; (try dsimp only at hSw); go_simp; try with_reducible rfl
        change wpAnyH _ _ _ _ _ _ _ (Act.put _ (some 4) _) _
        try simp only [Act.put, List.setIfInBounds_toArray, List.set_cons_zero, List.set_cons_succ]
        refine wpAnyH_take (i := 13) (v := ?vv9) (by rfl) (by kernel_rfl) (by kernel_rfl) (by kernel_rfl) (by intro _ _ _ h; exact h) (Or.inl ⟨by rfl, ?hy9⟩) (by assumption) ?rest9
        case hy9 => intro w' hSw; (try dsimp only at hSw); go_simp; try with_reducible rfl
        change wpAnyH _ _ _ _ _ _ _ (Act.put _ (some 5) _) _
        try simp only [Act.put, List.setIfInBounds_toArray, List.set_cons_zero, List.set_cons_succ]
        refine wpAnyH_done (by kernel_rfl) ?_ _
        refine NoPanic.normal ?_
        go_wp2_with fail
        go_ret2
        exact ⟨_, by rw [H.out.1]; rfl, by rw [H.out.2]; exact HO7.out, HK7.out⟩
       exact AllReadyH.nil
      exact AllReadyH.nil
     exact AllReadyH.nil
    exact AllReadyH.nil
   refine AllReadyH.cons (o := _) rfl (fun K hK => ?_) ?_
   ·go_simp
    refine (C4y.out _ _ (by first | rfl | assumption | omega)).mono ?_
    rintro e w5 ⟨rfl, hK5⟩
    have HKA5 : Hid (Keeps w w5) := Lib.hid (HK3.out.drew.trans hK5)
    clear hK5
    go_wp2_with fail
    refine hK.out _ _ ?_ (fun hHeld => ?_)
    ·exact HCV.out _ HKA5.out
    clear hK K
    try simp only [Act.put, List.setIfInBounds_toArray, List.set_cons_zero, List.set_cons_succ]
    refine wpAnyH_take (i := 5) (v := ?vv10) (by rfl) (by kernel_rfl) (by kernel_rfl) (by kernel_rfl) (by intro _ _ _ h; exact h) (Or.inl ⟨by rfl, ?hy10⟩) (by assumption) ?rest10
    case hy10 => intro w' hSw; (try dsimp only at hSw); go_simp; try with_reducible rfl
    try simp only [Act.put, List.setIfInBounds_toArray, List.set_cons_zero, List.set_cons_succ]
    refine wpAnyH_take (i := 8) (v := ?vv11) (by rfl) (by kernel_rfl) (by kernel_rfl) (by kernel_rfl) (by intro _ _ _ h; exact h) (Or.inl ⟨by rfl, ?hy11⟩) (by assumption) ?rest11
    case hy11 => intro w' hSw; (try dsimp only at hSw); go_simp; try with_reducible rfl
    try simp only [Act.put, List.setIfInBounds_toArray, List.set_cons_zero, List.set_cons_succ]
    refine wpAnyH_ready (rs := [0, 9]) (by kernel_rfl) (by simp) ?_
    refine AllReadyH.cons (o := _) rfl (fun K hK => ?_) ?_
    ·go_simp
     have HOL : Hid (Own (w5.alloc (.cells #[.int .u8 80] 5)) w.heap.size 5 (.slice (some ⟨w5.heap.size, 0, none⟩) 1 1) [.int .u8 80]) := Lib.hid (own_one rfl HKA5.out.size)
     refine hK.out _ _ ?_ (fun hHeld => ?_)
     ·exact HCV.out _ (HKA5.out.alloc _)
     clear hK K
     try simp only [Act.put, List.setIfInBounds_toArray, List.set_cons_zero, List.set_cons_succ]
     refine wpAnyH_ready (rs := [9]) (by kernel_rfl) (by simp) ?_
     refine AllReadyH.cons (o := _) rfl (fun K hK => ?_) ?_
     ·go_simp
      refine hK.out _ _ ?_ (fun hHeld => ?_)
      ·exact HCV.out _ ((HKA5.out.alloc _).trans (bytes_keeps _ _ _))
      clear hK K
      try simp only [Act.put, List.setIfInBounds_toArray, List.set_cons_zero, List.set_cons_succ]
      refine wpAnyH_ready (rs := [10]) (by kernel_rfl) (by simp) ?_
      refine AllReadyH.cons (o := _) rfl (fun K hK => ?_) ?_
      ·go_simp
       refine (C6.out _ _ (bytes_row _ _ _ (by simp) HBL.out.symm (by rw [HZ.out]) (by rw [HBL.out]; simp [maxLen]; omega))).mono ?_
       rintro e w6 ⟨v6, rfl, hown6, hK6⟩
       have HKA6 : Hid (Keeps w w6) := Lib.hid (((HKA5.out.alloc _).trans (bytes_keeps _ _ _)).trans hK6)
       have HOL := Lib.hid ((HOL.out.keeps (bytes_keeps _ _ _)).keeps hK6)
       obtain ⟨g6, c6, rfl, hcl6⟩ := own_at6 hown6 HVP.out
       have HCL := Lib.hid hcl6
       clear hK6 hown6 hcl6
       go_wp2_with fail
       refine hK.out _ _ ?_ (fun hHeld => ?_)
       ·exact HCV.out _ HKA6.out
       clear hK K
       try simp only [Act.put, List.setIfInBounds_toArray, List.set_cons_zero, List.set_cons_succ]
       refine wpAnyH_ready (rs := [11]) (by kernel_rfl) (by simp) ?_
       refine AllReadyH.cons (o := _) rfl (fun K hK => ?_) ?_
       ·refine step_app (base := w.heap.size) u8ok.s (by omega) rfl _ _ rfl _ 1 (veil (body k p)).length c6 ⟨g6, 0, none⟩ [.int .u8 80] ((veil (body k p)).map u8v) rfl rfl HOL.out (by rw [List.length_map, Nat.mul_one]) HCL.out (oneCell_map_u8 _) (by omega) (by omega) HKA6.out.size ?_
        intro v7 w7 ho7 hg7
        have HO7 : Hid (Own w7 w.heap.size 5 v7 ((80 :: veil (body k p)).map u8v)) := Lib.hid (own_of7 ho7)
        have HK7 : Hid (Keeps w w7) := Lib.hid (HKA6.out.grown hg7 (fun x hx => HOL.out.base x hx))
        clear ho7 hg7
        show K (Act.put _ (some 42) v7) w7
        refine hK.out _ _ ?_ (fun hHeld => ?_)
        ·exact HCV.out _ HK7.out
        clear hK K
        try simp only [Act.put, List.setIfInBounds_toArray, List.set_cons_zero, List.set_cons_succ]
        refine wpAnyH_take (i := 12) (v := ?vv12) (by rfl) (by kernel_rfl) (by kernel_rfl) (by kernel_rfl) (by intro _ _ _ h; exact h) (Or.inl ⟨by rfl, ?hy12⟩) (by assumption) ?rest12
        case hy12 => intro w' hSw; (try dsimp only at hSw); go_simp; try with_reducible rfl
        change wpAnyH _ _ _ _ _ _ _ (Act.put _ (some 4) _) _
        try simp only [Act.put, List.setIfInBounds_toArray, List.set_cons_zero, List.set_cons_succ]
        refine wpAnyH_take (i := 13) (v := ?vv13) (by rfl) (by kernel_rfl) (by kernel_rfl) (by kernel_rfl) (by intro _ _ _ h; exact h) (Or.inl ⟨by rfl, ?hy13⟩) (by assumption) ?rest13
        case hy13 => intro w' hSw; (try dsimp only at hSw); go_simp; try with_reducible rfl
        change wpAnyH _ _ _ _ _ _ _ (Act.put _ (some 5) _) _
        try simp only [Act.put, List.setIfInBounds_toArray, List.set_cons_zero, List.set_cons_succ]
        refine wpAnyH_done (by kernel_rfl) ?_ _
        refine NoPanic.normal ?_
        go_wp2_with fail
        go_ret2
        exact ⟨_, by rw [H.out.1]; rfl, by rw [H.out.2]; exact HO7.out, HK7.out⟩
       exact AllReadyH.nil
      exact AllReadyH.nil
     exact AllReadyH.nil
    refine AllReadyH.cons (o := _) rfl (fun K hK => ?_) ?_
    ·go_simp
     refine hK.out _ _ ?_ (fun hHeld => ?_)
     ·exact HCV.out _ (HKA5.out.trans (bytes_keeps _ _ _))
     clear hK K
     try simp only [Act.put, List.setIfInBounds_toArray, List.set_cons_zero, List.set_cons_succ]
     refine wpAnyH_ready (rs := [0, 10]) (by kernel_rfl) (by simp) ?_
     refine AllReadyH.cons (o := _) rfl (fun K hK => ?_) ?_
     ·go_simp
      have HOL : Hid (Own ((Lib.bytesWorld w5 5 (bstr (body k p))).alloc (.cells #[.int .u8 80] 5)) w.heap.size 5 (.slice (some ⟨(Lib.bytesWorld w5 5 (bstr (body k p))).heap.size, 0, none⟩) 1 1) [.int .u8 80]) := Lib.hid (own_one rfl (HKA5.out.trans (bytes_keeps _ _ _)).size)
      refine hK.out _ _ ?_ (fun hHeld => ?_)
      ·exact HCV.out _ ((HKA5.out.trans (bytes_keeps _ _ _)).alloc _)
      clear hK K
      try simp only [Act.put, List.setIfInBounds_toArray, List.set_cons_zero, List.set_cons_succ]
      refine wpAnyH_ready (rs := [10]) (by kernel_rfl) (by simp) ?_
      refine AllReadyH.cons (o := _) rfl (fun K hK => ?_) ?_
      ·go_simp
       refine (C6.out _ _ ((bytes_row _ _ _ (by simp) HBL.out.symm (by rw [HZ.out]) (by rw [HBL.out]; simp [maxLen]; omega)).keeps ((Keeps.refl _).alloc _))).mono ?_
       rintro e w6 ⟨v6, rfl, hown6, hK6⟩
       have HKA6 : Hid (Keeps w w6) := Lib.hid (((HKA5.out.trans (bytes_keeps _ _ _)).alloc _).trans hK6)
       have HOL := Lib.hid (HOL.out.keeps hK6)
       obtain ⟨g6, c6, rfl, hcl6⟩ := own_at6 hown6 HVP.out
       have HCL := Lib.hid hcl6
       clear hK6 hown6 hcl6
       go_wp2_with fail
       refine hK.out _ _ ?_ (fun hHeld => ?_)
       ·exact HCV.out _ HKA6.out
       clear hK K
       try simp only [Act.put, List.setIfInBounds_toArray, List.set_cons_zero, List.set_cons_succ]
       refine wpAnyH_ready (rs := [11]) (by kernel_rfl) (by simp) ?_
       refine AllReadyH.cons (o := _) rfl (fun K hK => ?_) ?_
       ·refine step_app (base := w.heap.size) u8ok.s (by omega) rfl _ _ rfl _ 1 (veil (body k p)).length c6 ⟨g6, 0, none⟩ [.int .u8 80] ((veil (body k p)).map u8v) rfl rfl HOL.out (by rw [List.length_map, Nat.mul_one]) HCL.out (oneCell_map_u8 _) (by omega) (by omega) HKA6.out.size ?_
        intro v7 w7 ho7 hg7
        have HO7 : Hid (Own w7 w.heap.size 5 v7 ((80 :: veil (body k p)).map u8v)) := Lib.hid (own_of7 ho7)
        have HK7 : Hid (Keeps w w7) := Lib.hid (HKA6.out.grown hg7 (fun x hx => HOL.out.base x hx))
        clear ho7 hg7
        show K (Act.put _ (some 42) v7) w7
        refine hK.out _ _ ?_ (fun hHeld => ?_)
        ·exact HCV.out _ HK7.out
        clear hK K
        try simp only [Act.put, List.setIfInBounds_toArray, List.set_cons_zero, List.set_cons_succ]
        refine wpAnyH_take (i := 12) (v := ?vv14) (by rfl) (by kernel_rfl) (by kernel_rfl) (by kernel_rfl) (by intro _ _ _ h; exact h) (Or.inl ⟨by rfl, ?hy14⟩) (by assumption) ?rest14
        case hy14 => intro w' hSw; (try dsimp only at hSw); go_simp; try with_reducible rfl
        change wpAnyH _ _ _ _ _ _ _ (Act.put _ (some 4) _) _
        try simp only [Act.put, List.setIfInBounds_toArray, List.set_cons_zero, List.set_cons_succ]
        refine wpAnyH_take (i := 13) (v := ?vv15) (by rfl) (by kernel_rfl) (by kernel_rfl) (by kernel_rfl) (by intro _ _ _ h; exact h) (Or.inl ⟨by rfl, ?hy15⟩) (by assumption) ?rest15
        case hy15 => intro w' hSw; (try dsimp only at hSw); go_simp; try with_reducible rfl
        change wpAnyH _ _ _ _ _ _ _ (Act.put _ (some 5) _) _
        try simp only [Act.put, List.setIfInBounds_toArray, List.set_cons_zero, List.set_cons_succ]
        refine wpAnyH_done (by kernel_rfl) ?_ _
        refine NoPanic.normal ?_
        go_wp2_with fail
        go_ret2
        exact ⟨_, by rw [H.out.1]; rfl, by rw [H.out.2]; exact HO7.out, HK7.out⟩
       exact AllReadyH.nil
      exact AllReadyH.nil
     refine AllReadyH.cons (o := _) rfl (fun K hK => ?_) ?_
     ·go_simp
      refine (C6.out _ _ (bytes_row _ _ _ (by simp) HBL.out.symm (by rw [HZ.out]) (by rw [HBL.out]; simp [maxLen]; omega))).mono ?_
      rintro e w6 ⟨v6, rfl, hown6, hK6⟩
      have HKA6 : Hid (Keeps w w6) := Lib.hid ((HKA5.out.trans (bytes_keeps _ _ _)).trans hK6)
      obtain ⟨g6, c6, rfl, hcl6⟩ := own_at6 hown6 HVP.out
      have HCL := Lib.hid hcl6
      clear hK6 hown6 hcl6
      go_wp2_with fail
      refine hK.out _ _ ?_ (fun hHeld => ?_)
      ·exact HCV.out _ HKA6.out
      clear hK K
      try simp only [Act.put, List.setIfInBounds_toArray, List.set_cons_zero, List.set_cons_succ]
      refine wpAnyH_ready (rs := [0]) (by kernel_rfl) (by simp) ?_
      refine AllReadyH.cons (o := _) rfl (fun K hK => ?_) ?_
      ·go_simp
       have HOL : Hid (Own (w6.alloc (.cells #[.int .u8 80] 5)) w.heap.size 5 (.slice (some ⟨w6.heap.size, 0, none⟩) 1 1) [.int .u8 80]) := Lib.hid (own_one rfl HKA6.out.size)
       refine hK.out _ _ ?_ (fun hHeld => ?_)
       ·exact HCV.out _ (HKA6.out.alloc _)
       clear hK K
       try simp only [Act.put, List.setIfInBounds_toArray, List.set_cons_zero, List.set_cons_succ]
       refine wpAnyH_ready (rs := [11]) (by kernel_rfl) (by simp) ?_
       refine AllReadyH.cons (o := _) rfl (fun K hK => ?_) ?_
       ·refine step_app (base := w.heap.size) u8ok.s (by omega) rfl _ _ rfl _ 1 (veil (body k p)).length c6 ⟨g6, 0, none⟩ [.int .u8 80] ((veil (body k p)).map u8v) rfl rfl HOL.out (by rw [List.length_map, Nat.mul_one]) (fun i x hx => keep1 ((Keeps.refl w6).alloc _) (HCL.out i x hx)) (oneCell_map_u8 _) (by omega) (by omega) (HKA6.out.alloc _).size ?_
        intro v7 w7 ho7 hg7
        have HO7 : Hid (Own w7 w.heap.size 5 v7 ((80 :: veil (body k p)).map u8v)) := Lib.hid (own_of7 ho7)
        have HK7 : Hid (Keeps w w7) := Lib.hid ((HKA6.out.alloc _).grown hg7 (fun x hx => HOL.out.base x hx))
        clear ho7 hg7
        show K (Act.put _ (some 42) v7) w7
        refine hK.out _ _ ?_ (fun hHeld => ?_)
        ·exact HCV.out _ HK7.out
        clear hK K
        try simp only [Act.put, List.setIfInBounds_toArray, List.set_cons_zero, List.set_cons_succ]
        refine wpAnyH_take (i := 12) (v := ?vv16) (by rfl) (by kernel_rfl) (by kernel_rfl) (by kernel_rfl) (by intro _ _ _ h; exact h) (Or.inl ⟨by rfl, ?hy16⟩) (by assumption) ?rest16
        case hy16 => intro w' hSw; (try dsimp only at hSw); go_simp; try with_reducible rfl
        change wpAnyH _ _ _ _ _ _ _ (Act.put _ (some 4) _) _
        try simp only [Act.put, List.setIfInBounds_toArray, List.set_cons_zero, List.set_cons_succ]
        refine wpAnyH_take (i := 13) (v := ?vv17) (by rfl) (by kernel_rfl) (by kernel_rfl) (by kernel_rfl) (by intro _ _ _ h; exact h) (Or.inl ⟨by rfl, ?hy17⟩) (by assumption) ?rest17
        case hy17 => intro w' hSw; (try dsimp only at hSw); go_simp; try with_reducible rfl
        change wpAnyH _ _ _ _ _ _ _ (Act.put _ (some 5) _) _
        try simp only [Act.put, List.setIfInBounds_toArray, List.set_cons_zero, List.set_cons_succ]
        refine wpAnyH_done (by kernel_rfl) ?_ _
        refine NoPanic.normal ?_
        go_wp2_with fail
        go_ret2
        exact ⟨_, by rw [H.out.1]; rfl, by rw [H.out.2]; exact HO7.out, HK7.out⟩
       exact AllReadyH.nil
      exact AllReadyH.nil
     exact AllReadyH.nil
    exact AllReadyH.nil
   exact AllReadyH.nil
end Frm
end Go.Proofs.Ytkbibhlfehamgaa

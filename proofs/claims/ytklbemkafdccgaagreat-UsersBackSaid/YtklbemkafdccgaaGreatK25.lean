/- Several texts in one: UsList, UsLeadMem, UsLead, UsFound, UsResolve, UsInts. -/
import Derived.Test.YtklbemkafdccgaaGreatK17
import Derived.Test.YtklbemkafdccgaaGreatFrameRef
import Derived.Test.YtklbemkafdccgaaGreatK24
import Derived.Test.YtklbemkafdccgaaGreatK00
/- users: Aliases. -/
namespace Go.Proofs.YtklbemkafdccgaaGreat
open Go.RowKit
namespace Usr
open Adr (Str)
open Mp Go.Maps
open Frm (ownsRow_keeps ownsRow_mods ownsRow_ty ownsRow_base ownsRow_form)
def alC (x : AlP × Value) : List Value := [.string (bstr x.1.name), x.2]
/-- a slice of aliases, of the call's own, each with its targets -/
structure AlsAt (w : World) (base : Nat) (v : Value) (l : List (AlP × Value)) : Prop where
 own : w.ownsRow base 108 2 v l.length (l.flatMap alC)
 pay : ∀ x ∈ l, Piece w base 9 x.2 (x.1.tos.map strV)
section
variable {w w' : World} {base : Nat} {v : Value} {l : List (AlP × Value)}
theorem AlsAt.nil (w : World) (base : Nat) : AlsAt w base (.slice none 0 0) [] := ⟨World.ownsRow_nil w base _ 2, by simp⟩
theorem AlsAt.keeps (h : AlsAt w base v l) (k : Keeps w w') : AlsAt w' base v l := ⟨ownsRow_keeps h.own k, fun x hx => (h.pay x hx).keeps k⟩
theorem AlsAt.lower {base' : Nat} (h : AlsAt w base v l) (hb : base' ≤ base) : AlsAt w base' v l := ⟨⟨h.own.1, h.own.2.imp id (fun ⟨g, cap, cur, hv, hg, r⟩ => ⟨g, cap, cur, hv, Nat.le_trans hb hg, r⟩)⟩, fun x hx => (h.pay x hx).lower hb⟩
theorem AlsAt.snoc {v' : Value} {f : AlP} {pv : Value} (h : AlsAt w base v l) (hp : Piece w base 9 pv (f.tos.map strV)) (ho : w'.ownsRow base 108 2 v' (l.length + 1) (l.flatMap alC ++ alC (f, pv))) (hg : w.grownBy w' v.ownBlock) : AlsAt w' base v' (l ++ [(f, pv)]) := by
 have hM : Mods (fun x => v.ownBlock = some x) w w' := (Mods.refl _ w).grown hg (fun k hk _ => hk)
 have hty := ownsRow_ty (e' := 9) h.own (by decide)
 refine ⟨by simpa using ho, ?_⟩
 intro x hx
 rcases List.mem_append.1 hx with hx | hx
 ·exact (h.pay x hx).modsT hM hty
 ·simp at hx
  subst hx
  exact hp.modsT hM hty
theorem AlsAt.lt (h : AlsAt w base v l) : ∀ x, v.ownBlock = some x → x < w.heap.size := by
 intro x hx
 rcases h.own.2 with ⟨rfl, _⟩ | ⟨g, cap, cur, rfl, _, hgg, _⟩
 ·simp [Value.ownBlock] at hx
 ·simp [Value.ownBlock] at hx
  subst hx
  exact (Array.getElem?_eq_some_iff.1 hgg).1
end
theorem own_ne {w : World} {b b2 C n : Nat} {e e2 : TypeId} {v v2 : Value} {l xs : List Value} (h : Own w b e v l) (h2 : w.ownsRow b2 e2 C v2 n xs) (hne : e2 ≠ e) : ∀ x, v.ownBlock = some x → ¬ v2.ownBlock = some x := by
 intro x hx hs
 rcases h.2 with ⟨rfl, _⟩ | ⟨g, cap, cur, rfl, _, hgg, _⟩
 ·simp [Value.ownBlock] at hx
 ·simp [Value.ownBlock] at hx
  subst hx
  exact ownsRow_ty h2 hne g hs _ _ hgg
theorem alok : ElemOkS Tryz.prog 30 108 2 40 := elemOkS (z := .agg #[.string (bstr []), .slice none 0 0]) Tryz.underlying30 (by kernel_rfl) rfl
theorem TabAt.getA {w : World} {g b1 b2 n : Nat} {t : TabP} (h : TabAt w g b1 b2 n t) (hn : (namesA t).Nodup) {a : AlP} (ha : a ∈ t.al) (hl : a.name.length ≤ maxLen) :
  ∃ p c, (Instr.lookup 82 (.map (some b2)) (.string (bstr a.name)) false).run Tryz.prog w = .ok (.agg #[.string (bstr a.name), .slice p a.tos.length c]) w ∧ Piece w 0 9 (.slice p a.tos.length c) (a.tos.map strV) := by
 obtain ⟨D, av, h1, h2, h3, h4⟩ := h.al
 obtain ⟨v', ps', hrun', hv'⟩ := look_plain h1 strKeyed Tryz.underlying82 (zeroA_run w) (alElem_mk zeroA) (key_str hl)
 have hat := h2.at_ strKind a.name zeroA
 rw [show D.atKey (Lit.string a.name) (alD zeroA) = _ from hat] at hv'
 rw [← h3] at ha
 obtain ⟨y, hy, rfl⟩ := List.mem_map.1 ha
 have hm : (y.1.name, (⟨y.1.name, y.2⟩ : AlV)) ∈ av.map alE := List.mem_map.2 ⟨y, hy, rfl⟩
 rw [(look_some h2.nd).2 hm] at hv'
 have hp := h4 y hy
 obtain ⟨p, cap, hv, -, -⟩ := hp.form
 rw [List.length_map] at hv
 refine ⟨p, cap, ?_, by rw [← hv]; exact hp⟩
 rw [hrun', alElem_inv hv', ← hv]
 rfl
def AlsDid (W : World) (l : List AlP) (e : Ending) (w' : World) : Prop := ∃ v L, e = .returned v ∧ AlsAt w' W.heap.size v L ∧ L.map (·.1) = l ∧ Keeps W w'
set_option maxRecDepth 100000 in
set_option maxHeartbeats 1000000 in
theorem aliases_any (w : World) (g b1 b2 n : Nat) (t : TabP) (h : TabAt w g b1 b2 n t) (hR : Right t) (hn : n ≤ 900000) : Calls Tryz.prog 49 #[.pointer (some ⟨g, 0, none⟩)] w (AlsDid w t.al) := by
 have HT := Lib.hid h
 have HRt := Lib.hid hR
 obtain ⟨D, av, ho, hm, hav, -⟩ := h.al
 have HSR := Lib.hid (fun ss hs => sorted_al hm hav hR.ao (ss := ss) hs)
 have HSO := Lib.hid (sortedAl_any b2 n D alElem w ho (by omega))
 have hlen := hR.all
 obtain ⟨-, -, -, c3⟩ := h.cells
 unfold AlsDid
 clear h ho hm hav hR
 go_enter Tryz.func49, Tryz.ntmps49
 go_wp2_with fail
 refine (keysAl_any _ _).mono ?_
 rintro e w1 ⟨rfl, rfl⟩
 go_wp2_with fail
 refine HSO.out.mono ?_
 rintro e w1 ⟨v, ss, rfl, hss, hown, hk⟩
 rw [HSR.out ss hss] at hown
 obtain ⟨pk, ck, hv, -, -⟩ := hown.row.form
 rw [List.length_map, namesA, List.length_map] at hv
 subst hv
 have HO := Lib.hid hown
 have HK := Lib.hid hk
 clear hown hk hss c3 HSR HSO
 go_wp2_with fail
 go_loopw [3, 14] (fun vv i wr => ∃ (L : List (AlP × Value)) (p : Option Addr) (c : Nat), i = .int .i64 (L.length : Int) ∧ L.length ≤ t.al.length ∧ vv = .slice p L.length c ∧ Hid (AlsAt wr w.heap.size (.slice p L.length c) L ∧ L.map (·.1) = t.al.take L.length ∧ Keeps w wr ∧ Own wr w.heap.size 9 (.slice pk t.al.length ck) ((namesA t).map strV))) (fun _ i _ => t.al.length - (RowKit.intOf i).toNat)
 case atStart => exact ⟨[], none, 0, rfl, Nat.zero_le _, rfl, Lib.hid ⟨AlsAt.nil _ _, rfl, HK.out, HO.out⟩⟩
 case round =>
  obtain ⟨L, p, c, rfl, hj, rfl, HH⟩ := hrel
  clear HO HK
  by_cases hlt : L.length < t.al.length
  ·obtain ⟨gk, ck', hv, -, -, -⟩ := Own.form HH.out.2.2.2 (by simp [namesA]; omega)
   simp only [List.length_map, namesA, Value.slice.injEq] at hv
   obtain ⟨rfl, -, rfl⟩ := hv
   have k0 : wr.cell? ⟨gk, L.length, none⟩ = some (.string (bstr t.al[L.length].name)) := Own.cellAt HH.out.2.2.2 L.length _ (by simp [namesA, List.getElem?_eq_getElem hlt, strV])
   have hax : t.al[L.length] ∈ t.al := List.getElem_mem hlt
   have hnx := HRt.out.an _ hax
   have HA := Lib.hid (show t.al.take (L.length + 1) = t.al.take L.length ++ [t.al[L.length]] from List.take_succ_eq_append_getElem hlt)
   have hnl : t.al[L.length].name.length ≤ 32 := by
    have := hnx.1
    unfold nameB at this
    simp only [Bool.and_eq_true, decide_eq_true_eq] at this
    exact this.2
   have htl : t.al[L.length].tos.length ≤ 8 := hnx.2.2
   obtain ⟨pz, cz, hl1, hpz⟩ := (HT.out.keeps HH.out.2.2.1).getA HRt.out.na hax (by unfold maxLen; omega)
   obtain ⟨-, -, -, c3⟩ := (HT.out.keeps HH.out.2.2.1).cells
   have HPZ := Lib.hid hpz
   generalize t.al[L.length] = A at *
   have hjs : L.length ≤ 1000 := by omega
   clear hax hnx hpz
   go_upto_region 6 with fail
   have HNO := Lib.hid (show ¬ (Value.slice p L.length c).ownBlock = some wr.heap.size from fun e => Nat.lt_irrefl _ (HH.out.1.lt _ e))
   generalize hW : World.alloc wr _ = wy
   have HKy := Lib.hid (show Keeps wr wy from by rw [← hW]; exact (Keeps.refl _).alloc _)
   have HE := Lib.hid (show Blk wy wr.heap.size 108 #[.string (bstr A.name), .slice pz A.tos.length cz] from by rw [← hW]; exact Blk.new _ _ _ rfl)
   clear hW k0 c3 hl1
   generalize wr.heap.size = q at *
   have a0 : wy.cell? ⟨q, 0, none⟩ = some (.string (bstr A.name)) := by rw [HE.out.cell]; rfl
   have a1 : wy.cell? ⟨q, 1, none⟩ = some (.slice pz A.tos.length cz) := by rw [HE.out.cell]; rfl
   have HS := Lib.hid (show AlsAt wy w.heap.size (.slice p L.length c) L from HH.out.1.keeps HKy.out)
   have HPY := Lib.hid (HPZ.out.keeps HKy.out)
   have HW := Lib.hid (HH.out.2.2.1.trans HKy.out)
   have HOY := Lib.hid (HH.out.2.2.2.keeps HKy.out)
   have HF := Lib.hid HH.out.2.1
   have CC := Lib.hid (fun (wx : World) (k : Mods (fun x => (Value.slice p L.length c).ownBlock = some x) wy wx) => clone_any wx (.slice pz A.tos.length cz) A.tos (Piece.row (HPY.out.modsT k (ownsRow_ty HS.out.own (by decide)))) (by omega))
   have HSd := Lib.hid (HS.out.keeps (Keeps.refl wy).drew)
   clear HH HKy HPZ HE
   refine wp_region_noPanic ?_
   refine wp_region_held_drew (S := fun w' => Mods (fun x => (Value.slice p L.length c).ownBlock = some x) wy w') (by kernel_rfl) ((Mods.refl (fun x => (Value.slice p L.length c).ownBlock = some x) wy).drew) (fun _ => ?_)
   have hHeld : Mods (fun x => (Value.slice p L.length c).ownBlock = some x) wy (wy).drew := (Mods.refl (fun x => (Value.slice p L.length c).ownBlock = some x) wy).drew
   generalize World.drew wy = xs at *
   refine tq 0 24 ?_
   refine tq 1 25 ?_
   refine tq 2 26 ?_ (hy := fun w' hSw => by
    have hSw : Mods (fun x => (Value.slice p L.length c).ownBlock = some x) wy w' := hSw
    have h0 := hSw.cell a0 HNO.out
    clear hSw
    go_simp
    try with_reducible rfl)
   refine tq 3 27 ?_
   refine tq 4 28 ?_ (hy := fun w' hSw => by
    have hSw : Mods (fun x => (Value.slice p L.length c).ownBlock = some x) wy w' := hSw
    have h0 := hSw.cell a1 HNO.out
    clear hSw
    go_simp
    try with_reducible rfl)
   refine rd1 5 (fun K hK => ?_)
   go_simp
   refine (CC.out _ hHeld).mono ?_
   rintro e yA ⟨v5, rfl, ho5, hk5⟩
   obtain ⟨p5, n5, c5, rfl⟩ := ho5.sl
   have hb := hHeld.trans (Mods.of_keeps hk5) (fun x h _ => h)
   have HSd := Lib.hid (HSd.out.keeps hk5)
   have HP5 := Lib.hid (ho5.piece.lower (Nat.le_trans HW.out.size hHeld.size))
   clear ho5 hk5
   go_wp2_with fail
   refine bkm hK hb ?_
   clear hK K hHeld
   have hHeld : Mods (fun x => (Value.slice p L.length c).ownBlock = some x) wy yA := hb
   clear hb
   refine tq 6 30 ?_
   refine rd1 7 (fun K hK => ?_)
   go_simp
   obtain ⟨b4, hb4⟩ : ∃ b, b = (World.heap yA).size := ⟨_, rfl⟩
   rw [← hb4]
   have HB4 := Lib.hid (show Blk (World.alloc yA (.cells #[.string (bstr A.name), .slice p5 n5 c5] 108)) b4 108 #[.string (bstr A.name), .slice p5 n5 c5] from Blk.new _ _ _ hb4)
   have HSd := Lib.hid (HSd.out.keeps ((Keeps.refl yA).alloc (.cells #[.string (bstr A.name), .slice p5 n5 c5] 108)))
   have HP5 := Lib.hid (HP5.out.keeps ((Keeps.refl yA).alloc (.cells #[.string (bstr A.name), .slice p5 n5 c5] 108)))
   have hb := hHeld.alloc (.cells #[.string (bstr A.name), .slice p5 n5 c5] 108)
   clear hb4
   generalize World.alloc yA _ = yB at *
   refine bkm hK hb ?_
   clear hK K hHeld
   have hHeld : Mods (fun x => (Value.slice p L.length c).ownBlock = some x) wy yB := hb
   clear hb
   refine rd1 8 (fun K hK => ?_)
   refine Frm.step_app (base := w.heap.size) alok (by decide) rfl _ _ rfl (.slice p L.length c) L.length 1 1 ⟨b4, 0, none⟩ (L.flatMap alC) [.string (bstr A.name), .slice p5 n5 c5] rfl rfl HSd.out.own rfl (fun j y hy => by rw [Go.WideShapes.add_plain, HB4.out.cell, Nat.zero_add]; simpa using hy) (by simp [Value.oneCell']) (by omega) (by decide) (Nat.le_trans HW.out.size hHeld.size) ?_
   intro v9 yC ho9 hg9
   obtain ⟨p9, c9, rfl, -, -⟩ := ownsRow_form ho9
   have hb := hHeld.grown hg9 (fun k hk _ => hk)
   have HSd := Lib.hid (HSd.out.snoc (f := A) (pv := .slice p5 n5 c5) HP5.out ho9 hg9)
   clear ho9 hg9 HP5 HB4
   show K (Act.put _ (some 32) _) yC
   refine bkm hK hb ?_
   clear hK K hHeld
   have hHeld : Mods (fun x => (Value.slice p L.length c).ownBlock = some x) wy yC := hb
   clear hb
   refine tq 9 3 ?_
   refine wpAnyH_done (by kernel_rfl) ?_ _
   refine NoPanic.normal ?_
   go_wp2_with fail
   refine ⟨⟨L ++ [(A, .slice p5 n5 c5)], p9, c9, by simp, by simp; omega, by simp, Lib.hid ⟨?_, ?_, ?_, ?_⟩⟩, ?_⟩
   ·have h9 := HSd.out
    rw [List.length_append, List.length_singleton]
    exact h9
   ·rw [List.length_append, List.length_singleton, HA.out, List.map_append, HF.out]; rfl
   ·exact hHeld.keeps HW.out (fun x hx => ownsRow_base HS.out.own x hx)
   ·exact HOY.out.mods hHeld (own_ne HOY.out HS.out.own (by decide))
   ·simp only [RowKit.intOf]; omega
  ·have e : L.length = t.al.length := by omega
   have HX := Lib.hid (show AlsAt wr w.heap.size (.slice p L.length c) L ∧ L.map (·.1) = t.al ∧ Keeps w wr from ⟨HH.out.1, by rw [HH.out.2.1, e, List.take_length], HH.out.2.2.1⟩)
   have hd : decide ((L.length : Int) < (t.al.length : Int)) = false := decide_eq_false (by omega)
   have hd2 : decide (L.length < t.al.length) = false := decide_eq_false hlt
   clear e HH
   go_wp2_with fail
   go_ret
   exact ⟨_, L, rfl, HX.out.1, HX.out.2.1, HX.out.2.2⟩
end Usr
end Go.Proofs.YtklbemkafdccgaaGreat

/- users: the maps of a walk in memory. -/
namespace Go.Proofs.YtklbemkafdccgaaGreat
open Go.RowKit
namespace Usr
open Adr (Str)
open Mp Go.Maps
def intL (x : Int) : Lit := .int .i64 x
/-- counts by numbers -/
def NumAt (w : World) (b n : Nat) (L : List (Int × Int)) : Prop := ∃ D, w.ownsMap Tryz.prog 3 numElem b n D ∧ MapOf (fun x : Int => Lit.int .i64 x) numD D L
section
variable {w w' : World} {b n : Nat} {L : List (Int × Int)}
theorem key_int {x : Int} (h : (Lit.int .i64 x).wf = true) : keyOf Tryz.prog 3 (.int .i64 x) = some (.int .i64 x) := keyOf_int_mk Tryz.underlying3 h
theorem intKeyedU : Keyed Tryz.prog 3 := int_keyed Tryz.underlying3
theorem NumAt.new (w : World) : NumAt (w.alloc (.map #[] 0)) w.heap.size 0 [] := ⟨_, World.ownsMap_made w Tryz.prog 3 numElem, MapOf.new⟩
theorem NumAt.keeps (h : NumAt w b n L) (k : Keeps w w') : NumAt w' b n L := let ⟨D, h1, h2⟩ := h; ⟨D, map_keepsS h1 k, h2⟩
theorem NumAt.mods {S : Nat → Prop} (h : NumAt w b n L) (k : Mods S w w') (hn : ¬ S b) : NumAt w' b n L := let ⟨D, h1, h2⟩ := h; ⟨D, map_modsS h1 k hn, h2⟩
theorem NumAt.mono (h : NumAt w b n L) {n' : Nat} (hn : n ≤ n') : NumAt w b n' L := let ⟨D, h1, h2⟩ := h; ⟨D, h1.mono hn, h2⟩
theorem NumAt.lt (h : NumAt w b n L) : b < w.heap.size := let ⟨_, h1, _⟩ := h; h1.lt
theorem CntAt.mono {L : List (Str × Int)} (h : CntAt w b n L) {n' : Nat} (hn : n ≤ n') : CntAt w b n' L := let ⟨D, h1, h2⟩ := h; ⟨D, h1.mono hn, h2⟩
theorem NumAt.get (h : NumAt w b n L) {x : Int} (hx : (Lit.int .i64 x).wf = true) : (Instr.lookup 118 (.map (some b)) (.int .i64 x) false).run Tryz.prog w = .ok (.int .i64 ((Mp.look L x).getD 0)) w := by
 obtain ⟨D, h1, h2⟩ := h
 obtain ⟨v, ps, hrun, hv⟩ := look_plain h1 intKeyedU Tryz.underlying118 (zeroN_run w) (zd := numD 0) (zp := []) rfl (key_int hx)
 rw [show D.atKey (Lit.int .i64 x) (numD 0) = _ from h2.at_ intKind x 0] at hv
 rw [hrun, numElem_inv hv]
theorem NumAt.set_ (h : NumAt w b n L) (hn : n < 1000000) {x : Int} (hx : (Lit.int .i64 x).wf = true) (v : Int) : ∃ w', (Instr.mapUpdate 118 (.map (some b)) (.int .i64 x) (.int .i64 v)).run Tryz.prog w = .ok () w' ∧ NumAt w' b (n + 1) (Mp.putL L x v) ∧ Mods (· = b) w w' := by
 obtain ⟨D, h1, h2⟩ := h
 obtain ⟨w', hrun, ho, ht⟩ := h1.store intKeyedU Tryz.underlying118 (by unfold maxLen; omega) (val := .int .i64 v) (d := numD v) (ps := []) (key_int hx) rfl
 exact ⟨w', hrun, ⟨_, ho, h2.put intKind x v⟩, turnedS ht⟩
theorem NumAt.len (h : NumAt w b n L) (ty : TypeId) : (Builtin.len_ #[118] ty #[.map (some b)]).run Tryz.prog w = .ok (.int .i64 (L.length : Int)) w := by
 obtain ⟨D, h1, h2⟩ := h
 rw [h1.len Tryz.underlying118 ty, h2.size]
end
section
variable {κ α : Type} [DecidableEq κ]
theorem mem_putL (L : List (κ × α)) (k : κ) (v : α) (x : κ) : x ∈ (Mp.putL L k v).map (·.1) ↔ x = k ∨ x ∈ L.map (·.1) := by
 unfold Mp.putL Mp.del
 simp only [List.map_append, List.mem_append, List.map_cons, List.map_nil, List.mem_singleton, List.mem_map, List.mem_filter, decide_eq_true_eq]
 constructor
 ·rintro (⟨p, ⟨hp, -⟩, rfl⟩ | rfl)
  ·exact .inr ⟨p, hp, rfl⟩
  ·exact .inl rfl
 ·rintro (rfl | ⟨p, hp, rfl⟩)
  ·exact .inr rfl
  ·by_cases e : p.1 = k
   ·exact .inr e
   ·exact .inl ⟨p, ⟨hp, e⟩, rfl⟩
theorem mem_putL2 {L : List (κ × α)} {k : κ} {v : α} {p : κ × α} (h : p ∈ Mp.putL L k v) : p ∈ L ∨ p = (k, v) := by
 unfold Mp.putL Mp.del at h
 rcases List.mem_append.1 h with h | h
 ·exact .inl (List.mem_filter.1 h).1
 ·exact .inr (by simpa using h)
theorem look_mem {L : List (κ × α)} {k : κ} {v : α} (h : Mp.look L k = some v) : (k, v) ∈ L := by
 unfold Mp.look at h
 cases hf : L.find? (fun p => decide (p.1 = k)) with
 |none => rw [hf] at h; simp at h
 |some p =>
  rw [hf] at h
  simp only [Option.map_some, Option.some.injEq] at h
  have h1 := List.mem_of_find?_eq_some hf
  have h2 := List.find?_some hf
  simp only [decide_eq_true_eq] at h2
  obtain ⟨a, b⟩ := p
  simp only at h h2
  subst h h2
  exact h1
theorem look_putG (L : List (κ × α)) (s : κ) (v : α) : Mp.look (Mp.putL L s v) s = some v := by
 unfold Mp.putL Mp.look
 rw [List.find?_append]
 have : (Mp.del L s).find? (fun p => decide (p.1 = s)) = none := by
  rw [List.find?_eq_none]
  intro p hp
  have := (List.mem_filter.1 hp).2
  simpa using this
 rw [this]
 simp
end
/-- the maps of a walk: the names in S were met, the users of the names in T found -/
structure LdAt (w : World) (sb fb n : Nat) (t : TabP) (S T : List Str) : Prop where
 seen : ∃ L, CntAt w sb n L ∧ (∀ x, x ∈ L.map (·.1) ↔ x ∈ S) ∧ ∀ p ∈ L, 1 ≤ p.2 ∧ p.2 ≤ (n : Int)
 fnd : ∃ F, NumAt w fb n F ∧ (∀ x, x ∈ F.map (·.1) ↔ ∃ u ∈ t.us, u.n = x ∧ u.name ∈ T) ∧ ∀ p ∈ F, 1 ≤ p.2 ∧ p.2 ≤ (n : Int)
 ne : sb ≠ fb
section
variable {w w' : World} {sb fb n : Nat} {t : TabP} {S T : List Str}
theorem LdAt.keeps (h : LdAt w sb fb n t S T) (k : Keeps w w') : LdAt w' sb fb n t S T :=
 ⟨let ⟨L, a, b⟩ := h.seen; ⟨L, a.keeps k, b⟩, let ⟨L, a, b⟩ := h.fnd; ⟨L, a.keeps k, b⟩, h.ne⟩
theorem LdAt.mono (h : LdAt w sb fb n t S T) {n' : Nat} (hn : n ≤ n') : LdAt w sb fb n' t S T :=
 ⟨let ⟨L, a, b, c⟩ := h.seen; ⟨L, a.mono hn, b, fun p hp => by have := c p hp; omega⟩, let ⟨L, a, b, c⟩ := h.fnd; ⟨L, a.mono hn, b, fun p hp => by have := c p hp; omega⟩, h.ne⟩
theorem LdAt.mark (h : LdAt w sb fb n t S T) (hn : n < 1000000) {s : Str} (hs : s.length ≤ maxLen) : ∃ (v : Int) (w' : World), (0 ≤ v ∧ v ≤ n) ∧ (s ∈ S → 0 < v) ∧ (s ∉ S → v = 0) ∧
  (Instr.lookup 120 (.map (some sb)) (.string (bstr s)) false).run Tryz.prog w = .ok (.int .i64 v) w ∧
  (Instr.mapUpdate 120 (.map (some sb)) (.string (bstr s)) (.int .i64 (v + 1))).run Tryz.prog w = .ok () w' ∧
  (Instr.lookup 120 (.map (some sb)) (.string (bstr s)) false).run Tryz.prog w' = .ok (.int .i64 (v + 1)) w' ∧
  LdAt w' sb fb (n + 1) t (s :: S) T ∧ Mods (· = sb) w w' := by
 obtain ⟨L, a, b, c⟩ := h.seen
 obtain ⟨F, a', b', c'⟩ := h.fnd
 have hv : (0 ≤ (Mp.look L s).getD 0 ∧ (Mp.look L s).getD 0 ≤ (n : Int)) ∧ (s ∈ S → 0 < (Mp.look L s).getD 0) ∧ (s ∉ S → (Mp.look L s).getD 0 = 0) := by
  cases e : Mp.look L s with
  |none =>
   have hq := (look_none (l := L) (k := s)).1 e
   rw [b s] at hq
   exact ⟨⟨by simp, by simp⟩, fun hm => absurd hm hq, fun _ => rfl⟩
  |some v =>
   have hm := look_mem e
   have hb := c _ hm
   have hS : s ∈ S := (b s).1 (List.mem_map.2 ⟨_, hm, rfl⟩)
   simp only at hb
   exact ⟨⟨by simp; omega, by simp; omega⟩, fun _ => by simp; omega, fun hq => absurd hS hq⟩
 obtain ⟨w', hset, hc2, hm2⟩ := a.set_ hn hs ((Mp.look L s).getD 0 + 1)
 have hg := hc2.get hs
 rw [look_putG] at hg
 refine ⟨_, w', hv.1, hv.2.1, hv.2.2, a.get hs, hset, hg, ⟨⟨_, hc2, fun x => ?_, fun p hp => ?_⟩, ⟨F, (a'.mods hm2 (fun e => h.ne e.symm)).mono (Nat.le_succ n), b', fun p hp => by have := c' p hp; omega⟩, h.ne⟩, hm2⟩
 ·rw [mem_putL, b x, List.mem_cons]
 ·rcases mem_putL2 hp with hp | rfl
  ·have := c p hp; omega
  ·have := hv.1; simp only; omega
theorem LdAt.skip (h : LdAt w sb fb n t S T) {s : Str} (hs : s ∉ namesU t) : LdAt w sb fb n t S (s :: T) := by
 refine ⟨h.seen, ?_, h.ne⟩
 obtain ⟨F, a, b, c⟩ := h.fnd
 refine ⟨F, a, fun x => ?_, c⟩
 rw [b x]
 constructor
 ·rintro ⟨u, hu, e, hm⟩; exact ⟨u, hu, e, List.mem_cons_of_mem _ hm⟩
 ·rintro ⟨u, hu, e, hm⟩
  rcases List.mem_cons.1 hm with hm | hm
  ·exact absurd (List.mem_map.2 ⟨u, hu, hm⟩) hs
  ·exact ⟨u, hu, e, hm⟩
theorem LdAt.found (h : LdAt w sb fb n t S T) (hn : n < 1000000) {u : UsrP} (hu : u ∈ t.us) (hx : (Lit.int .i64 u.n).wf = true) (huq : ∀ x ∈ t.us, x.name = u.name → x = u) (hur : ∀ x ∈ t.us, x.n = u.n → x = u) : ∃ (v : Int) (w' : World), (0 ≤ v ∧ v ≤ n) ∧
  (Instr.lookup 118 (.map (some fb)) (.int .i64 u.n) false).run Tryz.prog w = .ok (.int .i64 v) w ∧
  (Instr.mapUpdate 118 (.map (some fb)) (.int .i64 u.n) (.int .i64 (v + 1))).run Tryz.prog w = .ok () w' ∧
  LdAt w' sb fb (n + 1) t S (u.name :: T) ∧ Mods (· = fb) w w' := by
 obtain ⟨L, a, b, c⟩ := h.seen
 obtain ⟨F, a', b', c'⟩ := h.fnd
 have hv : 0 ≤ (Mp.look F u.n).getD 0 ∧ (Mp.look F u.n).getD 0 ≤ (n : Int) := by
  cases e : Mp.look F u.n with
  |none => exact ⟨by simp, by simp⟩
  |some v =>
   have hb := c' _ (look_mem e)
   simp only at hb
   exact ⟨by simp; omega, by simp; omega⟩
 obtain ⟨w', hset, hc2, hm2⟩ := a'.set_ hn hx ((Mp.look F u.n).getD 0 + 1)
 refine ⟨_, w', hv, a'.get hx, hset, ⟨⟨L, (a.mods hm2 (fun e => h.ne e)).mono (Nat.le_succ n), b, fun p hp => by have := c p hp; omega⟩, ⟨_, hc2, fun x => ?_, fun p hp => ?_⟩, h.ne⟩, hm2⟩
 ·rw [mem_putL, b' x]
  constructor
  ·rintro (rfl | ⟨y, hy, e, hm⟩)
   ·exact ⟨u, hu, rfl, List.mem_cons_self ..⟩
   ·exact ⟨y, hy, e, List.mem_cons_of_mem _ hm⟩
  ·rintro ⟨y, hy, e, hm⟩
   rcases List.mem_cons.1 hm with hm | hm
   ·rw [huq y hy hm] at e; exact .inl e.symm
   ·exact .inr ⟨y, hy, e, hm⟩
 ·rcases mem_putL2 hp with hp | rfl
  ·have := c' p hp; omega
  ·simp only; omega
end
end Usr
end Go.Proofs.YtklbemkafdccgaaGreat

/- users: lead. -/
namespace Go.Proofs.YtklbemkafdccgaaGreat
open Go.RowKit
namespace Usr
open Adr (Str)
open Mp Go.Maps
open Frm (ownsRow_keeps ownsRow_mods ownsRow_ty ownsRow_base ownsRow_form)
def LeadDid (w : World) (sb fb n : Nat) (t : TabP) (S : List Str) (name : Str) (e : Ending) (w' : World) : Prop :=
 e = .returned (.tuple #[]) ∧ ∃ n' S', LdAt w' sb fb n' t S' S' ∧ Went t name S S' ∧ n' + 16 * leftA t S' ≤ n + 16 * leftA t S + 2 ∧ Mods (fun x => x = sb ∨ x = fb) w w'
theorem tos_right {t : TabP} (hR : Right t) (s : Str) : (tosOf t s).length ≤ 8 ∧ ∀ x ∈ tosOf t s, x.length ≤ 32 := by
 by_cases h : s ∈ namesA t
 ·obtain ⟨a, ha, rfl⟩ := List.mem_map.1 h
  rw [tosOf_some hR.na ha]
  have := hR.an a ha
  refine ⟨this.2.2, fun x hx => ?_⟩
  have h2 := this.2.1
  unfold namesB at h2
  simp only [Bool.and_eq_true, List.all_eq_true] at h2
  have h3 := h2.1.1 x hx
  unfold nameB at h3
  simp only [Bool.and_eq_true, decide_eq_true_eq] at h3
  exact h3.2
 ·rw [tosOf_none h]; exact ⟨by simp, fun x hx => by cases hx⟩
theorem TabAt.tos {w : World} {g b1 b2 n : Nat} {t : TabP} (h : TabAt w g b1 b2 n t) (hR : Right t) {s : Str} (hl : s.length ≤ maxLen) :
  ∃ (s0 : ByteArray) (p : Option Addr) (c : Nat), (Instr.lookup 82 (.map (some b2)) (.string (bstr s)) false).run Tryz.prog w = .ok (.agg #[.string s0, .slice p (tosOf t s).length c]) w ∧ Piece w 0 9 (.slice p (tosOf t s).length c) ((tosOf t s).map strV) := by
 by_cases hs : s ∈ namesA t
 ·obtain ⟨a, ha, rfl⟩ := List.mem_map.1 hs
  rw [tosOf_some hR.na ha]
  obtain ⟨p, c, h1, h2⟩ := h.getA hR.na ha hl
  exact ⟨_, p, c, h1, h2⟩
 ·rw [tosOf_none hs]
  obtain ⟨a, -, h2, -, h4⟩ := h.lookA hl
  rw [h4 hs] at h2
  exact ⟨_, none, 0, h2, .inl ⟨none, 0, rfl, rfl, Nat.zero_le _, fun _ => rfl⟩⟩
section
variable {w w' : World} {sb fb n : Nat} {t : TabP} {S T : List Str}
theorem LdAt.objs (h : LdAt w sb fb n t S T) : ∀ x, (x = sb ∨ x = fb) → ∀ cs e fr, w.heap[x]? ≠ some (.cells cs e fr) := by
 obtain ⟨L, ⟨D, h1, -⟩, -⟩ := h.seen
 obtain ⟨F, ⟨E, h2, -⟩, -⟩ := h.fnd
 obtain ⟨es, cl, e1⟩ := map_obj h1
 obtain ⟨es', cl', e2⟩ := map_obj h2
 rintro x (rfl | rfl) cs e fr hh
 ·rw [e1] at hh; cases hh
 ·rw [e2] at hh; cases hh
theorem TabAt.ld {g b1 b2 m : Nat} (h : TabAt w g b1 b2 m t) (hl : LdAt w sb fb n t S T) (hne : sb ≠ b1 ∧ sb ≠ b2 ∧ fb ≠ b1 ∧ fb ≠ b2) (k : Mods (fun x => x = sb ∨ x = fb) w w') : TabAt w' g b1 b2 m t := by
 refine h.mods k (fun e => hl.objs g e _ _ _ h.blk) ?_ ?_ (fun x hx cs fr => hl.objs x hx cs _ fr)
 ·rintro (e | e)
  ·exact hne.1 e.symm
  ·exact hne.2.2.1 e.symm
 ·rintro (e | e)
  ·exact hne.2.1 e.symm
  ·exact hne.2.2.2 e.symm
theorem LdAt.again {s : Str} (h : LdAt w sb fb n t (s :: S) S) (hs : s ∈ S) : LdAt w sb fb n t (s :: S) (s :: S) := by
 refine ⟨h.seen, ?_, h.ne⟩
 obtain ⟨F, a, b, c⟩ := h.fnd
 refine ⟨F, a, fun x => ?_, c⟩
 rw [b x]
 constructor
 ·rintro ⟨u, hu, e, hm⟩; exact ⟨u, hu, e, List.mem_cons_of_mem _ hm⟩
 ·rintro ⟨u, hu, e, hm⟩
  rcases List.mem_cons.1 hm with hm | hm
  ·exact ⟨u, hu, e, by rw [hm]; exact hs⟩
  ·exact ⟨u, hu, e, hm⟩
end
theorem i64wfU {x : Int} (h : -9223372036854775808 ≤ x ∧ x ≤ 9223372036854775807) : (Lit.int .i64 x).wf = true := by
 simp [Lit.wf, IntKind.min, IntKind.max, IntKind.signed, IntKind.bits]
 omega
theorem num_inj {l : List UsrP} (h : l.Pairwise fun a b => a.n < b.n) {x u : UsrP} (hx : x ∈ l) (hu : u ∈ l) (e : x.n = u.n) : x = u := by
 induction l with
 |nil => cases hx
 |cons a l ih =>
  rw [List.pairwise_cons] at h
  rcases List.mem_cons.1 hx with e1 | k1
  ·rcases List.mem_cons.1 hu with e2 | k2
   ·rw [e1, e2]
   ·have := h.1 u k2; rw [← e1] at this; omega
  ·rcases List.mem_cons.1 hu with e2 | k2
   ·have := h.1 x k1; rw [← e2] at this; omega
   ·exact ih h.2 k1 k2
theorem name_inj {l : List UsrP} (hn : (l.map (·.name)).Nodup) {x a : UsrP} (h1 : x ∈ l) (h : a ∈ l) (e : x.name = a.name) : x = a := by
 induction l with
 |nil => cases h
 |cons b l ih =>
  rw [List.map_cons, List.nodup_cons] at hn
  rcases List.mem_cons.1 h1 with e1 | k1
  ·rcases List.mem_cons.1 h with e2 | k2
   ·rw [e1, e2]
   ·subst e1; exact absurd (List.mem_map.2 ⟨a, k2, e.symm⟩) hn.1
  ·rcases List.mem_cons.1 h with e2 | k2
   ·subst e2; exact absurd (List.mem_map.2 ⟨x, k1, e⟩) hn.1
   ·exact ih hn.2 k1 k2
set_option maxRecDepth 100000 in
set_option maxHeartbeats 4000000 in
theorem lead_step (t : TabP) (hR : Right t) (w : World) (g b1 b2 nt sb fb n : Nat) (S : List Str) (name : Str) (h : TabAt w g b1 b2 nt t) (hl : LdAt w sb fb n t S S) (hne : sb ≠ b1 ∧ sb ≠ b2 ∧ fb ≠ b1 ∧ fb ≠ b2) (hn : n + 16 * leftA t S ≤ 500000) (hnl : name.length ≤ 1000000)
  (IH : ∀ w' n' S' name', TabAt w' g b1 b2 nt t → LdAt w' sb fb n' t S' S' → leftA t S' < leftA t S → n' + 16 * leftA t S' ≤ 500000 → name'.length ≤ 1000000 → Calls Tryz.prog 68 #[.pointer (some ⟨g, 0, none⟩), .string (bstr name'), .map (some sb), .map (some fb)] w' (LeadDid w' sb fb n' t S' name')) :
  Calls Tryz.prog 68 #[.pointer (some ⟨g, 0, none⟩), .string (bstr name), .map (some sb), .map (some fb)] w (LeadDid w sb fb n t S name) := by
 have hlm : name.length ≤ maxLen := by unfold maxLen; omega
 have hn2 : n ≤ 500000 := by omega
 obtain ⟨v, w1, hv, hvp, hv0, hlk0, hset, hlk1, hl1, hm1⟩ := hl.mark (by omega) hlm
 have HT := Lib.hid (h.ld hl hne (hm1.mono (fun _ e => .inl e)))
 have HL := Lib.hid hl
 have HL1 := Lib.hid hl1
 have HM1 := Lib.hid (show Mods (fun x => x = sb ∨ x = fb) w w1 from hm1.mono (fun _ e => .inl e))
 have HNE := Lib.hid hne
 have HB := Lib.hid hn
 have HIH := Lib.hid IH
 have HRt := Lib.hid hR
 have hw1 : IntKind.i64.wrap (v + 1) = v + 1 := IntWalk.i64_in _ (by omega)
 clear h hl hl1 hm1 hne hn IH hR
 unfold LeadDid
 by_cases hin : name ∈ S
 ·have HIN := Lib.hid hin
  have e1 : decide ((1 : Int) < v + 1) = true := decide_eq_true (by have := hvp hin; omega)
  clear hvp hv0 hin
  go_enter Tryz.func68, Tryz.ntmps68
  go_upto_region 1 with fail
  clear hset hlk0
  go_wp2_with fail
  refine bodyPost_ret (v := .tuple #[]) (by simp [results, Tryz.results68, go_sem]) rfl ?_
  refine ⟨rfl, n + 1, name :: S, HL1.out.again HIN.out, Went.again HIN.out, ?_, HM1.out⟩
  have := HB.out
  have h2 : leftA t (name :: S) ≤ leftA t S := leftA_mono (fun x hx => List.mem_cons_of_mem _ hx)
  omega
 ·have HIN := Lib.hid hin
  have hv00 : v = 0 := hv0 hin
  subst hv00
  have hw2 : IntKind.i64.wrap (0 + 1) = 1 := by decide
  clear hvp hv0 hin hw1
  obtain ⟨un, us, ub, uc, hlk, hfu⟩ := look_forms HT.out hlm
  obtain ⟨iu, hiu⟩ : ∃ z, decide (name ∈ namesU t) = z := ⟨_, rfl⟩
  rw [hiu] at hlk
  have HFU := Lib.hid hfu
  have HIU := Lib.hid hiu
  obtain ⟨-, -, c2, -⟩ := HT.out.cells
  clear hfu hiu
  have hlk1' : (Instr.lookup 120 (.map (some sb)) (.string (bstr name)) false).run Tryz.prog w1 = .ok (.int .i64 1) w1 := hlk1
  have hset' : (Instr.mapUpdate 120 (.map (some sb)) (.string (bstr name)) (.int .i64 1)).run Tryz.prog w = .ok () w1 := hset
  clear hlk1 hset
  go_enter Tryz.func68, Tryz.ntmps68
  go_upto_region 1 with fail
  clear hset' hlk0
  go_upto_if 29 with fail
  generalize hW : World.alloc w1 _ = w2
  have HKy := Lib.hid (show Keeps w1 w2 from by rw [← hW]; exact (Keeps.refl _).alloc _)
  have HE := Lib.hid (show Blk w2 w1.heap.size 42 #[.int .i64 un, .string us, .int .i64 ub, .int .i64 uc] from by rw [← hW]; exact Blk.new _ _ _ rfl)
  clear hW hlk hlk1' c2
  generalize w1.heap.size = q at *
  have HT2 := Lib.hid (HT.out.keeps HKy.out)
  have HL2 := Lib.hid (HL1.out.keeps HKy.out)
  have HM2 := Lib.hid (show Mods (fun x => x = sb ∨ x = fb) w w2 from HM1.out.trans (Mods.of_keeps HKy.out) (fun x h _ => h))
  clear HL1 HM1 HKy HT
  go_cut [] (fun wx => Hid (LdAt wx sb fb (n + 2) t (name :: S) (name :: S) ∧ Mods (fun x => x = sb ∨ x = fb) w wx ∧ Mods (fun x => x = sb ∨ x = fb) w2 wx))
  case first =>
   cases iu with
   |false =>
    go_wp2_with fail
    go_meet
    exact Lib.hid ⟨(HL2.out.skip (of_decide_eq_false HIU.out)).mono (by omega), HM2.out, Mods.refl _ _⟩
   |true =>
    obtain ⟨u, hu⟩ : ∃ u, findU t name = some u := by
     have h1 := HIU.out
     rw [← findU_some] at h1
     exact Option.isSome_iff_exists.1 h1
    have hum : u ∈ t.us := List.mem_of_find?_eq_some hu
    have hun : u.name = name := by have := List.find?_some hu; simpa using this
    obtain ⟨rfl, -, -, -⟩ := HFU.out u hu
    have hlo := HRt.out.lo u hum
    have hnx := HRt.out.nx
    obtain ⟨v5, w5, hv5, hlk5, hset5, hl5, hm5⟩ := HL2.out.found (by omega) hum (i64wfU (by omega)) (fun x hx e => name_inj HRt.out.nu hx hum e) (fun x hx e => num_inj HRt.out.num hx hum e)
    rw [hun] at hl5
    have HL5 := Lib.hid hl5
    have HM5 := Lib.hid (show Mods (fun x => x = sb ∨ x = fb) w2 w5 from hm5.mono (fun _ e => .inr e))
    have hw5 : IntKind.i64.wrap (v5 + 1) = v5 + 1 := IntWalk.i64_in _ (by omega)
    have u0 : w2.cell? ⟨q, 0, none⟩ = some (.int .i64 u.n) := by rw [HE.out.cell]; rfl
    clear hu hum hun hl5 hm5 hlo hnx
    go_wp2_with fail
    go_meet
    exact Lib.hid ⟨HL5.out, HM2.out.trans HM5.out (fun x h _ => h), HM5.out⟩
  case rest =>
  obtain ⟨w3, rfl⟩ : ∃ z : World, z = wc := ⟨_, rfl⟩
  have HL3 := Lib.hid hcut.out.1
  have HM3 := Lib.hid hcut.out.2.1
  have HT3 := Lib.hid (HT2.out.ld HL2.out HNE.out hcut.out.2.2)
  clear hcut HL2 HM2 HE
  obtain ⟨s0, p, c, hlk3, hp3⟩ := HT3.out.tos HRt.out hlm
  have HTR := Lib.hid (tos_right HRt.out name)
  have ht8 := HTR.out.1
  have HP := Lib.hid hp3
  obtain ⟨-, -, -, c3⟩ := HT3.out.cells
  have HGO := Lib.hid (@Going.start t name S)
  obtain ⟨m, hm⟩ : ∃ z, (tosOf t name).length = z := ⟨_, rfl⟩
  have HMM := Lib.hid hm
  rw [hm] at hlk3 ht8 HP
  have hB0 : n + 2 + 16 * leftA t (name :: S) ≤ n + 16 * leftA t (name :: S) + 2 + 2 * 0 := by omega
  have HB0 := Lib.hid hB0
  clear hm hp3 hB0
  have hfld : ∀ w, (Instr.field 108 (.agg #[.string s0, .slice p m c]) 1).run Tryz.prog w = .ok (.slice p m c) w := fun w => by rfl
  go_wp2_with fail
  clear hlk3 c3 hfld
  go_loopw [43] (fun iv wr => ∃ (j nj : Nat) (Sj : List Str), iv = .int .i64 (j : Int) ∧ j ≤ m ∧ Hid (LdAt wr sb fb nj t Sj Sj ∧ Going t name S j Sj ∧ nj + 16 * leftA t Sj ≤ n + 16 * leftA t (name :: S) + 2 + 2 * j ∧ Mods (fun x => x = sb ∨ x = fb) w wr ∧ Mods (fun x => x = sb ∨ x = fb) w3 wr)) (fun iv _ => m - (RowKit.intOf iv).toNat)
  case atStart => exact ⟨0, n + 2, name :: S, rfl, Nat.zero_le _, Lib.hid ⟨HL3.out, HGO.out, HB0.out, HM3.out, Mods.refl _ _⟩⟩
  case round =>
   obtain ⟨j, nj, Sj, rfl, hj, HH⟩ := hrel
   obtain ⟨wz, rfl⟩ : ∃ z : World, z = wr := ⟨_, rfl⟩
   by_cases hlt : j < m
   ·have hjl : j < (tosOf t name).length := by rw [HMM.out]; exact hlt
    have hna : name ∈ namesA t := Classical.byContradiction fun hx => by rw [tosOf_none hx] at hjl; simp at hjl
    have hPr := Piece.row (HP.out.modsT HH.out.2.2.2.2 (fun x hx cs fr => HL3.out.objs x hx cs _ fr))
    have hcl : ∃ bs o, p = some ⟨bs, o, none⟩ ∧ wz.cell? ⟨bs, o + j, none⟩ = some (.string (bstr (tosOf t name)[j])) := by
     rcases hPr with ⟨a0, cap, h1, h2, -, -⟩ | ⟨b, off, cap, h1, h2, h3, h4⟩
     ·have := congrArg List.length h2; rw [List.length_map, List.length_nil] at this; omega
     ·simp only [Value.slice.injEq] at h1
      exact ⟨b, off, h1.1, h4 j _ (by simp [hjl, strV])⟩
    obtain ⟨bs, o, rfl, hcell⟩ := hcl
    have HX := Lib.hid (fun (S2 : List Str) (k : Went t (tosOf t name)[j] Sj S2) => HH.out.2.1.next hjl k)
    have hxl := HTR.out.2 _ (List.getElem_mem hjl)
    have hlf := leftA_lt hna HIN.out
    have hlf2 : leftA t Sj ≤ leftA t (name :: S) := leftA_mono HH.out.2.1.sub
    have hbb := HH.out.2.2.1
    have hb2 := HB.out
    generalize (tosOf t name)[j] = x at *
    have CR := Lib.hid (HIH.out wz nj Sj x (HT3.out.ld HL3.out HNE.out HH.out.2.2.2.2) HH.out.1 (by omega) (by omega) (by omega))
    clear hPr hna hlf hlf2 hbb hb2 hjl
    go_wp2_with fail
    refine CR.out.mono ?_
    rintro e w5 ⟨rfl, n5, S5, hl5, hw5, hb5, hm5⟩
    have HY := Lib.hid (And.intro hl5 (And.intro hw5 (And.intro hb5 hm5)))
    clear hl5 hw5 hb5 hm5
    go_wp2_with fail
    go_roundw
    case rel =>
     refine ⟨j + 1, n5, S5, by simp, by omega, Lib.hid ⟨HY.out.1, HX.out S5 HY.out.2.1, ?_, HH.out.2.2.2.1.trans HY.out.2.2.2 (fun x h _ => h), HH.out.2.2.2.2.trans HY.out.2.2.2 (fun x h _ => h)⟩⟩
     have h1 := HH.out.2.2.1
     have h2 := HY.out.2.2.1
     omega
    case measure =>
     simp only [RowKit.intOf]
     omega
   ·have hjm : j = m := by omega
    have HZ := Lib.hid (show Going t name S (tosOf t name).length Sj from by rw [HMM.out, ← hjm]; exact HH.out.2.1)
    have hd : decide ((j : Int) < (m : Int)) = false := decide_eq_false (by omega)
    have HJ := Lib.hid hjm
    clear hjm
    go_wp2_with fail
    refine bodyPost_end (v := .tuple #[]) (by simp [results, Tryz.results68, go_sem]) rfl ?_
    refine ⟨rfl, nj, Sj, HH.out.1, HZ.out.done, ?_, HH.out.2.2.2.1⟩
    have h1 := HH.out.2.2.1
    have h2 := HB.out
    have h3 := HJ.out
    by_cases hna : name ∈ namesA t
    ·have := leftA_lt hna HIN.out
     omega
    ·have h4 : m = 0 := by have := HMM.out; rw [tosOf_none hna] at this; simpa using this.symm
     have h5 : leftA t (name :: S) ≤ leftA t S := leftA_mono (fun x hx => List.mem_cons_of_mem _ hx)
     omega
theorem lead_any (t : TabP) (hR : Right t) (g b1 b2 nt sb fb : Nat) (hne : sb ≠ b1 ∧ sb ≠ b2 ∧ fb ≠ b1 ∧ fb ≠ b2) : ∀ (K : Nat) (w : World) (n : Nat) (S : List Str) (name : Str), TabAt w g b1 b2 nt t → LdAt w sb fb n t S S → leftA t S ≤ K → n + 16 * leftA t S ≤ 500000 → name.length ≤ 1000000 → Calls Tryz.prog 68 #[.pointer (some ⟨g, 0, none⟩), .string (bstr name), .map (some sb), .map (some fb)] w (LeadDid w sb fb n t S name) := by
 intro K
 induction K with
 |zero =>
  intro w n S name h hl hK hn hnl
  exact lead_step t hR w g b1 b2 nt sb fb n S name h hl hne hn hnl (fun w' n' S' name' _ _ hlt => by omega)
 |succ K ih =>
  intro w n S name h hl hK hn hnl
  exact lead_step t hR w g b1 b2 nt sb fb n S name h hl hne hn hnl (fun w' n' S' name' h' hl' hlt hn' hnl' => ih w' n' S' name' h' hl' (by omega) hn' hnl')
end Usr
end Go.Proofs.YtklbemkafdccgaaGreat

/- users: maps.Keys of the numbers that were found, slices.Sorted; plain: to whom a name leads. -/
namespace Go.Proofs.YtklbemkafdccgaaGreat
open Go.RowKit Go.Sort Go.Shelf
namespace Usr
open Adr (Str)
open Mp Go.Maps
theorem sortsI (m : Nat) : AnyZI.SortsIn Tryz.prog Tryz.sortedInt2_ren Fence.wide m :=
 ⟨fun blk off cap ss W hH hblk hsz => callsIn_wide.2 (AnyM.slices_Sort_int Tryz.sortInt2 blk off cap ss W hH hblk hsz),
  fun p cap W => callsIn_wide.2 (AnyM.slices_Sort_int_none Tryz.sortInt2 p cap W)⟩
theorem keysFn_any (mb : Option Nat) (W : World) : Calls Tryz.prog 70 #[.map mb] W fun e w' => e = .returned (.func (.func 121) #[] #[.pointer (some ⟨W.heap.size, 0, none⟩)]) ∧ w' = W.alloc (.cells #[.map mb] 118) :=
 (callsIn_wide (n := 5)).1 (AnyZI.keys_in Tryz.keysInt2 Fence.wide 5 trivial rfl mb W)
theorem sortedFn_any (b nn : Nat) (D0 : DataW Unit) (R : Value → Option (DataW Unit × List MemPlace)) (w : World) (hown : w.ownsMap Tryz.prog 3 R b nn D0) (hn : nn ≤ 1000000) :
  Calls Tryz.prog 69 #[.func (.func 121) #[] #[.pointer (some ⟨w.heap.size, 0, none⟩)]] (w.alloc (.cells #[.map (some b)] 118)) fun e w' => ∃ (v : Value) (ss : List Int), e = .returned v ∧ ss.Perm (intKeys D0) ∧ Own w' w.heap.size 3 v ((ss.mergeSort leI).map encZ) ∧ Keeps w w' := by
 refine (callsIn_wide (n := 5)).1 ?_
 have hsz := hown.size_le
 have hbl := hown.lt
 have hseq : SeqGives Fence.wide 2 Tryz.prog 121 #[.pointer (some ⟨w.heap.size, 0, none⟩)] encZ (fun ss => ss.Perm (intKeys D0)) (Maps.size D0) (w.alloc (.cells #[.map (some b)] 118)) :=
  AnyZI.keys_gives (ρ := Tryz.keysInt2_ren) { Tryz.keysInt2 with } Fence.wide _ trivial rfl (by omega) w.heap.size b nn D0 _ (by simp) (by simp) (by
   obtain ⟨es, clock, hb, Ft, hs, hD⟩ := hown
   exact ⟨es, clock, (Below.heap_alloc _ _ b hbl).trans hb, Ft, hs, hD⟩)
 have cS := AnyZI.sorted_in Tryz.sortedInt2 Fence.wide 5 trivial trivial trivial trivial rfl (by omega) (sortsI _) (enters_of Tryz.func120 (by kernel_rfl) rfl) 121 #[.pointer (some ⟨w.heap.size, 0, none⟩)] trivial (enters_of Tryz.func121 (by kernel_rfl) rfl) _ _ (by unfold maxLen; omega) (by omega) _ hseq
 change CallsIn _ _ Tryz.prog 69 _ _ _ at cS
 refine cS.mono ?_
 rintro e w' ⟨v, ss, rfl, hS, hrow, hnil, hb⟩
 refine ⟨v, ss, rfl, hS, ?_, ((Below.refl _ w).alloc (Nat.le_refl _) _).trans (hb.mono (by simp))⟩
 unfold Own
 rw [show ((ss.mergeSort leI).map encZ).length = ss.length from by simp]
 exact ownsRow_base_a hrow (by simp)
theorem MapOf.keysI {α : Type} {enc : α → DataW Unit} {D : DataW Unit} {l : List (Int × α)} (h : MapOf (fun x : Int => Lit.int .i64 x) enc D l) : (intKeys D).Perm (l.map (·.1)) := by
 obtain ⟨es, rfl, p⟩ := h.ex
 show (es.map fun p => Go.intOf p.1).Perm _
 have := p.map (fun p => Go.intOf p.1)
 rw [List.map_map] at this
 exact this
theorem went_leads {t : TabP} {name : Str} {S : List Str} (h : Went t name [] S) (x : Str) : x ∈ S ↔ Leads t name x := by
 constructor
 ·intro hx
  rcases h.frm x hx with h1 | h1
  ·cases h1
  ·exact h1
 ·intro hx
  induction hx with
  |refl => exact h.me
  |step _ hy ih =>
   rcases h.clos _ ih with h1 | h1
   ·cases h1
   ·exact h1 _ hy
open Classical in
/-- the numbers of the users to whom a name leads, rising -/
noncomputable def resN (t : TabP) (name : Str) : List Int := (t.us.filter fun u => decide (Leads t name u.name)).map (·.n)
theorem resN_rise {t : TabP} (hR : Right t) (name : Str) : (resN t name).Pairwise (· < ·) := by
 unfold resN
 exact List.pairwise_map.2 (hR.num.filter _)
theorem resN_mem {t : TabP} (name : Str) (x : Int) : x ∈ resN t name ↔ ∃ u ∈ t.us, u.n = x ∧ Leads t name u.name := by
 unfold resN
 simp only [List.mem_map, List.mem_filter, decide_eq_true_eq]
 constructor
 ·rintro ⟨u, ⟨h1, h2⟩, h3⟩; exact ⟨u, h1, h3, h2⟩
 ·rintro ⟨u, h1, h3, h2⟩; exact ⟨u, ⟨h1, h2⟩, h3⟩
theorem fnd_perm {t : TabP} (hR : Right t) {name : Str} {S : List Str} {F : List (Int × Int)} (hnd : (F.map (·.1)).Nodup) (hF : ∀ x, x ∈ F.map (·.1) ↔ ∃ u ∈ t.us, u.n = x ∧ u.name ∈ S) (hW : Went t name [] S) : (F.map (·.1)).Perm (resN t name) := by
 refine (List.perm_ext_iff_of_nodup hnd ((resN_rise hR name).imp fun {a b} h => by omega)).2 (fun x => ?_)
 rw [hF x, resN_mem]
 constructor
 ·rintro ⟨u, h1, h2, h3⟩; exact ⟨u, h1, h2, (went_leads hW _).1 h3⟩
 ·rintro ⟨u, h1, h2, h3⟩; exact ⟨u, h1, h2, (went_leads hW _).2 h3⟩
theorem sorted_fnd {t : TabP} (hR : Right t) {name : Str} {ss l : List Int} (h : ss.Perm l) (h2 : l.Perm (resN t name)) : ss.mergeSort leI = resN t name := by
 rw [mergeSort_of_perm_i (h.trans h2)]
 refine List.mergeSort_of_pairwise ?_
 refine (resN_rise hR name).imp fun {a b} hab => ?_
 simp only [leI, decide_eq_true_eq]
 omega
end Usr
end Go.Proofs.YtklbemkafdccgaaGreat

/- users: Resolve. -/
namespace Go.Proofs.YtklbemkafdccgaaGreat
open Go.RowKit Go.Sort Go.Shelf
namespace Usr
open Adr (Str goodB)
open Mp Go.Maps
noncomputable def resP (t : TabP) (l d : Str) : List Int × Int :=
 if goodB l d = false then ([], 3) else if decide (lowL d = t.dom) = false then ([], 7) else if resN t (lowL l) = [] then ([], 7) else (resN t (lowL l), 0)
def ResDid (W : World) (r : List Int × Int) (e : Ending) (w' : World) : Prop := ∃ v, e = .returned (.tuple #[v, .int .i64 r.2]) ∧ Own w' W.heap.size 3 v (r.1.map encZ) ∧ Keeps W w'
theorem resP_form {t : TabP} {l d : Str} (h : goodB l d = false) : resP t l d = ([], 3) := by unfold resP; rw [if_pos h]
theorem resP_dom {t : TabP} {l d : Str} (h : goodB l d = true) (h2 : decide (lowL d = t.dom) = false) : resP t l d = ([], 7) := by unfold resP; rw [if_neg (by simp [h]), if_pos h2]
theorem resP_none {t : TabP} {l d : Str} (h : goodB l d = true) (h2 : decide (lowL d = t.dom) = true) (h3 : resN t (lowL l) = []) : resP t l d = ([], 7) := by unfold resP; rw [if_neg (by simp [h]), if_neg (by simpa using h2), if_pos h3]
theorem resP_ok {t : TabP} {l d : Str} (h : goodB l d = true) (h2 : decide (lowL d = t.dom) = true) (h3 : resN t (lowL l) ≠ []) : resP t l d = (resN t (lowL l), 0) := by unfold resP; rw [if_neg (by simp [h]), if_neg (by simpa using h2), if_neg h3]
theorem resDid_nil {W w' : World} {r : List Int × Int} {E : Int} (h : r = ([], E)) (k : Keeps W w') : ResDid W r (.returned (.tuple #[.slice none 0 0, .int .i64 E])) w' := by
 rw [h]
 exact ⟨_, rfl, Own.nil _ _ _, k⟩
set_option maxRecDepth 100000 in
set_option maxHeartbeats 4000000 in
theorem resolve_any (w : World) (g b1 b2 n : Nat) (t : TabP) (h : TabAt w g b1 b2 n t) (hR : Right t) (l d : Str) (hll : l.length ≤ 1000000) (hdl : d.length ≤ 1000000) : Calls Tryz.prog 20 #[.pointer (some ⟨g, 0, none⟩), .agg #[.string (bstr l), .string (bstr d)]] w (ResDid w (resP t l d)) := by
 have HT := Lib.hid h
 have HRt := Lib.hid hR
 have HK := Lib.hid (show Keeps w (w.alloc (.cells #[.string (bstr l), .string (bstr d)] 48)) from (Keeps.refl _).alloc _)
 have HB := Lib.hid (Blk.new w 48 #[.string (bstr l), .string (bstr d)] rfl)
 have CG := Lib.hid (fun w => Adr.good_any w l d (by omega) (by omega))
 have CD := Lib.hid (fun w => lower_any d (by omega) w)
 have CL := Lib.hid (fun w => lower_any l (by omega) w)
 have HF := Lib.hid (@resP_form t l d)
 have HD := Lib.hid (@resP_dom t l d)
 have HN := Lib.hid (@resP_none t l d)
 have HO := Lib.hid (@resP_ok t l d)
 have hmk1 : ∀ w, (Instr.makeMap 120 none).run Tryz.prog w = .ok (.map (some w.heap.size)) (w.alloc (.map #[] 0)) := fun w => run_makeMap _ w
 have hmk2 : ∀ w, (Instr.makeMap 118 none).run Tryz.prog w = .ok (.map (some w.heap.size)) (w.alloc (.map #[] 0)) := fun w => run_makeMap _ w
 generalize resP t l d = r at *
 generalize goodB l d = gb at *
 obtain ⟨ds, hds⟩ : ∃ z, decide (lowL d = t.dom) = z := ⟨_, rfl⟩
 have HDS := Lib.hid hds
 rw [hds] at HD HN HO
 have HTE := Lib.hid (show ((bstr (lowL d)).toList == (bstr t.dom).toList) = ds from by rw [bstr_toList, bstr_toList, ← hds, Bool.eq_iff_iff]; simp)
 clear h hR hds
 go_enter Tryz.func20, Tryz.ntmps20
 go_wp2_with fail
 refine (CG.out _).mono ?_
 rintro e w2 ⟨rfl, hk⟩
 have HK := Lib.hid (HK.out.trans hk)
 have HB := Lib.hid (HB.out.keeps hk)
 obtain ⟨q, hq⟩ : ∃ z, w.heap.size = z := ⟨_, rfl⟩
 rw [hq] at HB ⊢
 clear hk hq CG
 cases gb with
 |false =>
  have HRX := Lib.hid (HF.out (by simp))
  go_wp2_with fail
  exact bodyPost_ret (v := .tuple #[.slice none 0 0, .int .i64 3]) (by simp [results, Tryz.results20, go_sem]) rfl (resDid_nil HRX.out HK.out)
 |true =>
 have a0 : w2.cell? ⟨q, 0, none⟩ = some (.string (bstr l)) := by rw [HB.out.cell]; rfl
 have a1 : w2.cell? ⟨q, 1, none⟩ = some (.string (bstr d)) := by rw [HB.out.cell]; rfl
 obtain ⟨c0, -⟩ := (HT.out.keeps HK.out).cells
 go_upto_region 3 with fail
 go_cut [11] (fun bv wx => bv = .bool (!ds) ∧ Hid (Keeps w2 wx))
 case first =>
  refine wp_region_noPanic ?_
  refine wp_region_held_drew (S := fun w' => Keeps w2 w') (by kernel_rfl) ((Keeps.refl w2).drew) (fun _ => ?_)
  have hHeld : Keeps w2 (w2).drew := (Keeps.refl w2).drew
  generalize World.drew w2 = xs at *
  refine tq 0 12 ?_
  refine tq 1 13 ?_ (hy := fun w' hSw => by
   have hSw : Keeps w2 w' := hSw
   have h0 := keep1 hSw a1
   clear hSw
   go_simp
   try with_reducible rfl)
  refine tq 3 15 ?_
  refine tq 4 16 ?_
  refine tq 5 17 ?_
  refine tq 6 18 ?_ (hy := fun w' hSw => by
   have hSw : Keeps w2 w' := hSw
   have h0 := keep1 hSw c0
   clear hSw
   go_simp
   try with_reducible rfl)
  refine rd1 2 (fun K hK => ?_)
  go_simp
  refine (CD.out _).mono ?_
  rintro e yA ⟨rfl, hk⟩
  have hb := hHeld.trans hk
  clear hk
  go_wp2_with fail
  refine bkm hK hb ?_
  clear hK K hHeld
  have hHeld : Keeps w2 yA := hb
  clear hb
  refine tq 7 19 ?_
  refine tq 8 11 ?_
  refine wpAnyH_done (by kernel_rfl) ?_ _
  refine NoPanic.normal ?_
  go_wp2_with fail
  go_meet
  exact ⟨by rw [HTE.out], Lib.hid hHeld⟩
 case rest =>
 obtain ⟨rfl, HK3⟩ := hcut
 obtain ⟨w3, rfl⟩ : ∃ z : World, z = wc := ⟨_, rfl⟩
 have HK := Lib.hid (HK.out.trans HK3.out)
 have HB := Lib.hid (HB.out.keeps HK3.out)
 have hq0 : w.heap.size ≤ w3.heap.size := HK.out.size
 clear HK3 a0 a1 c0 CD HTE
 cases ds with
 |false =>
  have HRX := Lib.hid (HD.out (by simp) (by simp))
  go_wp2_with fail
  exact bodyPost_ret (v := .tuple #[.slice none 0 0, .int .i64 7]) (by simp [results, Tryz.results20, go_sem]) rfl (resDid_nil HRX.out HK.out)
 |true =>
 have HN2 := Lib.hid (HN.out (by simp) (by simp))
 have HO2 := Lib.hid (HO.out (by simp) (by simp))
 clear HN HO
 have HNM := Lib.hid (NumAt.new w3)
 have HK := Lib.hid (HK.out.alloc (.map #[] 0))
 have HB := Lib.hid (HB.out.keeps ((Keeps.refl w3).alloc (.map #[] 0)))
 go_upto_region 6 with fail
 obtain ⟨w4, hw4⟩ : ∃ z, w3.alloc (.map #[] 0) = z := ⟨_, rfl⟩
 obtain ⟨fb, hfb⟩ : ∃ z, w3.heap.size = z := ⟨_, rfl⟩
 rw [hw4] at HNM HK HB ⊢
 rw [hfb] at HNM hq0 ⊢
 clear hw4 hfb hmk2
 have a0 : w4.cell? ⟨q, 0, none⟩ = some (.string (bstr l)) := by rw [HB.out.cell]; rfl
 go_wp2_with fail
 refine (CL.out _).mono ?_
 rintro e w5 ⟨rfl, hk⟩
 have HNM := Lib.hid (HNM.out.keeps hk)
 have HK := Lib.hid (HK.out.trans hk)
 have hfl := HNM.out.lt
 have HL0 := Lib.hid (show LdAt (w5.alloc (.map #[] 0)) w5.heap.size fb 0 t [] [] from
  ⟨⟨[], CntAt.new w5, by simp, by simp⟩, ⟨[], HNM.out.keeps ((Keeps.refl _).alloc _), by simp, by simp⟩, by omega⟩)
 have hq5 : w.heap.size ≤ w5.heap.size := HK.out.size
 have HT5 := Lib.hid (HT.out.keeps (HK.out.alloc (.map #[] 0)))
 have hlt := (HT.out).lt
 have hbb := HT.out.lt
 have HK := Lib.hid (HK.out.alloc (.map #[] 0))
 have hla : leftA t [] ≤ 16 := Nat.le_trans (List.length_filter_le _ _) HRt.out.all
 have CA := Lib.hid (lead_any t HRt.out g b1 b2 n w5.heap.size fb ⟨by omega, by omega, by omega, by omega⟩ (leftA t []) _ 0 [] (lowL l) HT5.out HL0.out (Nat.le_refl _) (by omega) (by rw [lowL_len]; exact hll))
 clear a0 hk HNM HL0 HT5 CL
 go_wp2_with fail
 refine CA.out.mono ?_
 rintro e w7 ⟨rfl, n7, S7, hl7, hw7, hb7, hm7⟩
 have HK7 := Lib.hid (hm7.keeps HK.out (fun x hx => by rcases hx with rfl | rfl <;> omega))
 obtain ⟨F, hF, hFm, -⟩ := hl7.fnd
 have hn7 : n7 ≤ 1000 := by omega
 obtain ⟨D, ho7, hm⟩ := hF
 have HPM := Lib.hid (fnd_perm HRt.out hm.nd hFm hw7)
 have hln := NumAt.len ⟨D, ho7, hm⟩
 have HKE := Lib.hid (MapOf.keysI hm)
 have HOW := Lib.hid ho7
 have hFl : F.length = (resN t (lowL l)).length := by have := HPM.out.length_eq; simpa using this
 have HFL := Lib.hid hFl
 have HSF := Lib.hid (sortedFn_any fb n7 D numElem w7 ho7 (by omega))
 obtain ⟨m, hmm⟩ : ∃ z, F.length = z := ⟨_, rfl⟩
 rw [hmm] at hln HFL
 clear hl7 hw7 hb7 hm7 hFm ho7 hm hFl hmm CA HK hla
 by_cases h0 : m = 0
 ·have e0 : ((m : Int) == 0) = true := by simp [h0]
  have HRX := Lib.hid (HN2.out (List.eq_nil_of_length_eq_zero (by rw [← HFL.out]; exact h0)))
  clear h0
  go_wp2_with fail
  exact bodyPost_ret (v := .tuple #[.slice none 0 0, .int .i64 7]) (by simp [results, Tryz.results20, go_sem]) rfl (resDid_nil HRX.out HK7.out)
 ·have e0 : ((m : Int) == 0) = false := by simp [h0]
  have HRX := Lib.hid (HO2.out (fun e => h0 (by rw [HFL.out, e]; rfl)))
  clear h0
  go_wp2_with fail
  refine (keysFn_any _ _).mono ?_
  rintro e w8 ⟨rfl, rfl⟩
  go_wp2_with fail
  refine HSF.out.mono ?_
  rintro e w9 ⟨v, ss, rfl, hss, hown, hk⟩
  rw [sorted_fnd HRt.out (hss.trans HKE.out) HPM.out] at hown
  have HO9 := Lib.hid (show Own w9 w.heap.size 3 v ((resN t (lowL l)).map encZ) from ownsRow_base_a hown HK7.out.size)
  have HK9 := Lib.hid (HK7.out.trans hk)
  clear hown hk hss
  obtain ⟨p9, n9, c9, rfl⟩ := HO9.out.sl
  go_wp2_with fail
  refine bodyPost_ret (v := .tuple #[.slice p9 n9 c9, .int .i64 0]) (by simp [results, Tryz.results20, go_sem]) rfl ?_
  rw [HRX.out]
  exact ⟨_, rfl, HO9.out, HK9.out⟩
end Usr
end Go.Proofs.YtklbemkafdccgaaGreat

/- ref13: SameInts. -/
namespace Go.Proofs.YtklbemkafdccgaaGreat
open Go.RowKit Go.Sort
namespace Usr
open Go.Maps
set_option maxRecDepth 100000 in
set_option maxHeartbeats 2000000 in
theorem sameInts13_any (w : World) {ba bb : Nat} {va vb : Value} {L : List Int} (ha : Own w ba 3 va (L.map encZ)) (hb : Own w bb 3 vb (L.map encZ)) : Calls Tryz.prog 21 #[va, vb] w fun e w' => e = .returned (.bool true) ∧ Keeps w w' := by
 obtain ⟨pa, ca, rfl, hc0, hc1⟩ := ha.row.form
 obtain ⟨pb, cb, rfl, hc2, hc3⟩ := hb.row.form
 rw [List.length_map] at *
 have HA := Lib.hid ha
 have HB := Lib.hid hb
 have : maxLen = 9223372036854775807 := rfl
 clear ha hb
 go_enter Tryz.func21, Tryz.ntmps21
 go_wp2_with fail
 go_loopw [5] (fun i wr => ∃ j : Nat, i = .int .i64 (j : Int) ∧ j ≤ L.length ∧ Hid (Keeps w wr)) (fun i _ => L.length - (RowKit.intOf i).toNat)
 case atStart => exact ⟨0, rfl, Nat.zero_le _, Lib.hid (Keeps.refl _)⟩
 case round =>
  obtain ⟨j, rfl, hj, HK⟩ := hrel
  by_cases hlt : j < L.length
  ·obtain ⟨ga, ca', hv, -, -, -⟩ := Own.form HA.out (by simp; omega)
   simp only [List.length_map, Value.slice.injEq] at hv
   obtain ⟨rfl, -, rfl⟩ := hv
   obtain ⟨gb, cb', hv, -, -, -⟩ := Own.form HB.out (by simp; omega)
   simp only [List.length_map, Value.slice.injEq] at hv
   obtain ⟨rfl, -, rfl⟩ := hv
   have a0 : wr.cell? ⟨ga, j, none⟩ = some (.int .i64 L[j]) := Own.cellAt (HA.out.keeps HK.out) j _ (by simp [List.getElem?_eq_getElem hlt])
   have b0 : wr.cell? ⟨gb, j, none⟩ = some (.int .i64 L[j]) := Own.cellAt (HB.out.keeps HK.out) j _ (by simp [List.getElem?_eq_getElem hlt])
   generalize L[j] = E at *
   go_wp2_with fail
   go_quiet (fail)
   go_wp2_with fail
   go_roundw
   case rel => exact ⟨j + 1, by simp, by omega, Lib.hid (HK.out.trans (by repeat (first | exact Keeps.refl _ | refine Keeps.drewN ?_ _)))⟩
   case measure =>
    simp only [RowKit.intOf]
    omega
  ·go_wp2_with fail
   go_ret
   exact ⟨rfl, HK.out⟩
end Usr
end Go.Proofs.YtklbemkafdccgaaGreat

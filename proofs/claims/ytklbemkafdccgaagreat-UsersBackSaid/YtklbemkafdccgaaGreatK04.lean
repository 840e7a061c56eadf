/- Several texts in one: UsName, OctetSink, OctetSource, OctetTakes. -/
import Derived.Test.YtklbemkafdccgaaGreatK00
import Derived.Test.YtklbemkafdccgaaGreatK02
import Derived.Test.YtklbemkafdccgaaGreatK03
import Derived.Lib.SliceRun
/- users: names, small letters; the document's too. -/
namespace Go.Proofs.YtklbemkafdccgaaGreat
open Go.RowKit
namespace Usr
open Adr (Str)
theorem nameB_take {s : Str} {j : Nat} (h : j < s.length) (ha : (s.take j).all nameC = true) (hc : nameC s[j] = true) : (s.take (j + 1)).all nameC = true := by
 rw [List.take_succ_eq_append_getElem h, List.all_append, ha]
 simp [hc]
theorem nameB_bad {s : Str} {j : Nat} (h : j < s.length) (hc : nameC s[j] = false) : nameB s = false := by
 have : s.all nameC = false := by
  rw [List.all_eq_false]
  exact ⟨s[j], List.getElem_mem h, by simp [hc]⟩
 unfold nameB
 rw [this]
 rfl
set_option maxRecDepth 100000 in
set_option maxHeartbeats 2000000 in
theorem isName_any (s : Str) (hs : s.length ≤ 1000000000000) (w : World) : Calls Tryz.prog 89 #[.string (bstr s)] w fun e w' => e = .returned (.bool (nameB s)) ∧ Keeps w w' := by
 obtain ⟨c9, w2, hcv, hrow, hK⟩ := str_bytes (P := Tryz.prog) w Tryz.underlying51 Tryz.underlying5 Tryz.underlying9 (bstr s) (by rw [bstr_size]; simp [maxLen]; omega)
 have HSZ := Lib.hid (bstr_size s)
 have HRW := Lib.hid (show Row w2 (.slice (some ⟨w.heap.size, 0, none⟩) (bstr s).size c9) (s.map u8v) from hrow)
 have HK2 := Lib.hid hK
 have HN := Lib.hid (fun (j : Nat) (h : j < s.length) => @nameB_bad s j h)
 have HT := Lib.hid (fun (j : Nat) (h : j < s.length) => @nameB_take s j h)
 have HB := Lib.hid (show nameB s = (s.all nameC && decide (s ≠ []) && decide (s.length ≤ 32)) from rfl)
 generalize nameB s = r at *
 clear hK hrow
 go_enter Tryz.func89, Tryz.ntmps89
 go_wp2_with fail
 clear hcv
 generalize w.heap.size = bn at *
 go_loopw [8] (fun i wr => ∃ j : Nat, i = .int .i64 (j : Int) ∧ j ≤ (bstr s).size ∧ Hid ((s.take j).all nameC = true) ∧ w2 = wr) (fun i _ => (bstr s).size - (intOf i).toNat)
 case atStart => exact ⟨0, rfl, Nat.zero_le _, Lib.hid rfl, rfl⟩
 case round =>
  obtain ⟨j, rfl, hj, HA, rfl⟩ := hrel
  by_cases hlt : j < (bstr s).size
  ·have hll : j < s.length := by rw [← HSZ.out]; exact hlt
   have hw : IntKind.i64.wrap ((j : Int) + 1) = (j : Int) + 1 := IntWalk.i64_in _ (by rw [bstr_size] at hlt; omega)
   obtain ⟨b, off, cap, hv, -, -, hc⟩ := HRW.out.bytesAt (by omega)
   simp only [Value.slice.injEq, Option.some.injEq, Addr.mk.injEq] at hv
   obtain ⟨⟨rfl, rfl, -⟩, -, rfl⟩ := hv
   have hcell := hc.out j s[j] (List.getElem?_eq_getElem hll)
   rw [Nat.zero_add] at hcell
   have HG := Lib.hid (fun h : nameC s[j] = true => HT.out j hll HA.out h)
   have HF := Lib.hid (fun h : nameC s[j] = false => HN.out j hll h)
   have HC := Lib.hid (show nameC s[j] = decide (97 ≤ s[j].toNat ∧ s[j].toNat ≤ 122 ∨ 48 ≤ s[j].toNat ∧ s[j].toNat ≤ 57 ∨ s[j].toNat = 46 ∨ s[j].toNat = 45 ∨ s[j].toNat = 95) from rfl)
   generalize nameC s[j] = nc at *
   generalize s[j].toNat = m at *
   clear hc hll
   go_wp2_with fail
   all_goals
    first
     |exact ⟨⟨j + 1, by simp, by omega, Lib.hid (HG.out (by rw [HC.out]; refine decide_eq_true ?_; simp only [beq_iff_eq, beq_eq_false_iff_ne, ne_eq] at *; omega)), trivial⟩, (by simp only [intOf]; omega)⟩
     |go_ret
      refine ⟨retB (HF.out ?_).symm, HK2.out⟩
      rw [HC.out]
      refine decide_eq_false ?_
      simp only [beq_iff_eq, beq_eq_false_iff_ne, ne_eq] at *
      omega
  ·have hje : j = s.length := by rw [HSZ.out] at hj hlt; omega
   have HL := Lib.hid (show s.all nameC = true from by have := HA.out; rwa [hje, List.take_length] at this)
   have HRX := Lib.hid (show r = (decide (s ≠ []) && decide (s.length ≤ 32)) from by rw [HB.out, HL.out]; rfl)
   have hsz := HSZ.out
   clear hje
   have bt := bstr_toList s
   by_cases h0 : s = []
   ·have HR0 := Lib.hid (show r = false from by rw [HRX.out, h0]; rfl)
    have e0 : s.isEmpty = true := by rw [h0]; rfl
    clear h0
    go_wp2_with fail
    all_goals
     go_ret
     exact ⟨retB HR0.out.symm, HK2.out⟩
   ·have e0 : s.isEmpty = false := by cases s with | nil => exact absurd rfl h0 | cons _ _ => rfl
    by_cases h32 : s.length ≤ 32
    ·have HR0 := Lib.hid (show r = true from by rw [HRX.out, decide_eq_true h0, decide_eq_true h32]; rfl)
     have e32 : decide ((s.length : Int) ≤ 32) = true := decide_eq_true (by omega)
     clear h0
     go_wp2_with fail
     all_goals
      go_ret
      exact ⟨retB HR0.out.symm, HK2.out⟩
    ·have HR0 := Lib.hid (show r = false from by rw [HRX.out, decide_eq_false h32]; simp)
     have e32 : decide ((s.length : Int) ≤ 32) = false := decide_eq_false (by omega)
     clear h0
     go_wp2_with fail
     all_goals
      go_ret
      exact ⟨retB HR0.out.symm, HK2.out⟩
end Usr
end Go.Proofs.YtklbemkafdccgaaGreat

/- The sink: what it holds, and what each call makes of it. bytes.Clone. -/
namespace Go.Proofs.YtklbemkafdccgaaGreat
open Go.RowKit
namespace Oct

theorem _root_.Go.Proofs.YtklbemkafdccgaaGreat.Own.sl {w : World} {base : Nat} {e : TypeId} {v : Value} {l : List Value} (h : Own w base e v l) : ∃ p n cap, v = .slice p n cap := by
 obtain ⟨p, cap, rfl, -⟩ := h.row.form
 exact ⟨_, _, _, rfl⟩
theorem str9 : Tryz.prog.underlying 9 = some .string := Tryz.underlying9

set_option maxHeartbeats 400000 in
theorem clone_any (v : Value) (l : List UInt8) (w : World) (hr : Row w v (l.map u8v)) (hl : l.length ≤ 35184372088832) : Calls Tryz.prog 84 #[v] w (RetS w l) := by
 obtain ⟨p, cap, rfl, hc1, hc2⟩ := hr.formB
 have HR := Lib.hid hr
 clear hr
 have en := fun (w : World) (a : Option Addr) (n c : Nat) => Lib.run_eql_slice_nil (P := Tryz.prog) w 51 5 a n c 0 0 Tryz.underlying51
 cases p with
 |none =>
  have HE : Hid (RetS w l (.returned (.slice none 0 0)) w) := Lib.hid (by
   have : l = [] := by
    rcases HR.out with ⟨a0, cap', -, hl0, -, -⟩ | ⟨b, off, cap', hv, -⟩
    ·simpa using hl0
    ·simp at hv
   subst this
   exact ⟨_, rfl, Own.nil _ _ _, Keeps.refl _⟩)
  go_enter Tryz.func84, Tryz.ntmps84
  go_wp2
  go_ret
  exact HE.out
 |some ad =>
  go_enter Tryz.func84, Tryz.ntmps84
  go_wp2_with (at_builtin; refine wpList_app1 (base := w.heap.size) u8ok rfl _ _ rfl (.slice (some ⟨w.heap.size, 0, none⟩) 0 0) _ [] (l.map u8v) rfl rfl (Own.empty w.heap.size rfl (Nat.le_refl _)) (HR.out.keeps ((Keeps.refl _).alloc _)) (oneCell_map_u8 _) (by simp; omega) (by omega) (by simp) ?_; intro v' w2 ho2 hg2 hf2)
  go_ret
  exact ⟨_, rfl, by simpa using ho2, ((Keeps.refl _).alloc _).grown hg2 (by intro k hk; simp [Value.ownBlock] at hk; omega)⟩

/-- the blocks of a sink at g with slice v -/
def Fr (g : Nat) (v : Value) (x : Nat) : Prop := x = g ∨ v.ownBlock = some x

structure SinkAt (w : World) (g : Nat) (v : Value) (l : List UInt8) : Prop where
 blk : Blk w g 181 #[v]
 own : Own w 0 5 v (l.map u8v)

theorem SinkAt.keeps {w w' : World} {g : Nat} {v : Value} {l : List UInt8} (h : SinkAt w g v l) (k : Keeps w w') : SinkAt w' g v l := ⟨h.blk.keeps k, h.own.keeps k⟩
theorem SinkAt.mods {w w' : World} {g : Nat} {v : Value} {l : List UInt8} {S : Nat → Prop} (h : SinkAt w g v l) (k : Mods S w w') (hn : ∀ x, Fr g v x → ¬ S x) : SinkAt w' g v l := ⟨h.blk.mods k (hn g (.inl rfl)), h.own.mods k fun x hx => hn x (.inr hx)⟩
theorem SinkAt.ne {w : World} {g : Nat} {v : Value} {l : List UInt8} (h : SinkAt w g v l) : v.ownBlock ≠ some g := h.own.blk_ne h.blk (by decide)
theorem SinkAt.lt {w : World} {g : Nat} {v : Value} {l : List UInt8} (h : SinkAt w g v l) : ∀ x, Fr g v x → x < w.heap.size := fun x hx => hx.elim (fun e => e ▸ h.blk.lt) (fun e => h.own.block_lt x e)

/-- the call answers r; the sink holds l' then, and no other old block is changed -/
def SinkDid (W : World) (g : Nat) (v : Value) (l' : List UInt8) (r : Ending) (e : Ending) (w' : World) : Prop :=
 ∃ v', e = r ∧ SinkAt w' g v' l' ∧ Mods (Fr g v) W w' ∧ Fresh W v v'

theorem sink_stored {w w2 : World} {g : Nat} {v v' : Value} {l l' : List UInt8} (h : SinkAt w g v l) (hg : w.grownBy w2 v.ownBlock) (ho : Own w2 0 5 v' (l'.map u8v)) :
  SinkAt (w2.setCell ⟨g, 0, none⟩ v') g v' l' ∧ Mods (Fr g v) w (w2.setCell ⟨g, 0, none⟩ v') := by
 have hb : Blk w2 g 181 #[v] := h.blk.grown hg h.ne
 have hne : v'.ownBlock ≠ some g := ho.blk_ne hb (by decide)
 refine ⟨⟨by simpa using hb.set_ 0 v', ho.setCell _ hne⟩, ?_⟩
 exact ((Mods.refl _ w).grown hg (fun k hk _ => .inr hk)).setCell (fun _ => .inl rfl) _

/-- a new sink -/
def NewSinkDid (W : World) (e : Ending) (w' : World) : Prop := ∃ g, e = .returned (.pointer (some ⟨g, 0, none⟩)) ∧ W.heap.size ≤ g ∧ SinkAt w' g (.slice none 0 0) [] ∧ Keeps W w'

theorem newSink_any (w : World) : Calls Tryz.prog 52 #[] w (NewSinkDid w) := by
 have HE : Hid (NewSinkDid w (.returned (.pointer (some ⟨w.heap.size, 0, none⟩))) (w.alloc (.cells #[.slice none 0 0] 181))) :=
  Lib.hid ⟨w.heap.size, rfl, Nat.le_refl _, ⟨Blk.new _ _ _ rfl, Own.nil _ _ _⟩, (Keeps.refl _).alloc _⟩
 go_enter Tryz.func52, Tryz.ntmps52
 go_wp2
 go_ret
 exact HE.out

set_option maxHeartbeats 400000 in
theorem sinkU_any (g : Nat) (v : Value) (l : List UInt8) (x : Nat) (hx : x < 18446744073709551616) (k : Int) (w : World) (h : SinkAt w g v l) (hl : l.length ≤ 35184372088832) :
  Calls Tryz.prog 54 #[.pointer (some ⟨g, 0, none⟩), .int .u64 (x : Int), .int .i64 k] w (SinkDid w g v (l ++ putL x k) (.returned (.bool (putB x k)))) := by
 have HS := Lib.hid h
 clear h
 go_enter Tryz.func54, Tryz.ntmps54
 go_wp2_with fail
 refine (put_any x hx k _).mono ?_
 rintro e w1 ⟨b, rfl, hown1, hK1⟩
 have hlen : (putL x k).length ≤ 8 := by unfold putL; split <;> simp [be_length, putB, okk] at * <;> omega
 have HS1 := Lib.hid (HS.out.keeps hK1)
 have hc : w1.cell? ⟨g, 0, none⟩ = some v := by have := HS1.out.blk.cell 0; simpa using this
 have hf : w1.frozen? ⟨g, 0, none⟩ = false := HS1.out.blk.frozen 0
 have HO := Lib.hid hown1
 clear hown1
 go_wp2_with (at_builtin; refine wpList_app1 (base := 0) u8ok rfl _ _ rfl v b (l.map u8v) ((putL x k).map u8v) rfl rfl HS1.out.own HO.out.row (oneCell_map_u8 _) (by simp; omega) (by omega) (Nat.zero_le _) ?_; intro v' w2 ho2 hg2 hf2; obtain ⟨p2, n2, cap2, rfl⟩ := ho2.sl; have hc2 : w2.cell? ⟨g, 0, none⟩ = some v := by { have := (HS1.out.blk.grown hg2 HS1.out.ne).cell 0; simpa using this }; have hfr2 : w2.frozen? ⟨g, 0, none⟩ = false := (HS1.out.blk.grown hg2 HS1.out.ne).frozen 0)
 rw [← List.map_append] at ho2
 have hst := sink_stored HS1.out hg2 ho2
 go_ret
 exact ⟨_, rfl, hst.1, (Mods.of_keeps hK1 : Mods (Fr g v) w w1).trans hst.2 (fun _ h _ => h), hf2.back hK1.size⟩

set_option maxHeartbeats 400000 in
theorem sinkRaw_any (g : Nat) (v : Value) (l : List UInt8) (u : Value) (m : List UInt8) (w : World) (h : SinkAt w g v l) (hr : Row w u (m.map u8v)) (hl : l.length + m.length ≤ 35184372088832) :
  Calls Tryz.prog 185 #[.pointer (some ⟨g, 0, none⟩), u] w (SinkDid w g v (l ++ m) (.returned (.tuple #[]))) := by
 have HS1 := Lib.hid h
 have hc : w.cell? ⟨g, 0, none⟩ = some v := by have := h.blk.cell 0; simpa using this
 have hf : w.frozen? ⟨g, 0, none⟩ = false := h.blk.frozen 0
 have HR := Lib.hid hr
 clear h hr
 go_enter Tryz.func185, Tryz.ntmps185
 go_wp2_with (at_builtin; refine wpList_app1 (base := 0) u8ok rfl _ _ rfl v u (l.map u8v) (m.map u8v) rfl rfl HS1.out.own HR.out (oneCell_map_u8 _) (by simp; omega) (by omega) (Nat.zero_le _) ?_; intro v' w2 ho2 hg2 hf2; obtain ⟨p2, n2, cap2, rfl⟩ := ho2.sl; have hc2 : w2.cell? ⟨g, 0, none⟩ = some v := by { have := (HS1.out.blk.grown hg2 HS1.out.ne).cell 0; simpa using this }; have hfr2 : w2.frozen? ⟨g, 0, none⟩ = false := (HS1.out.blk.grown hg2 HS1.out.ne).frozen 0)
 rw [← List.map_append] at ho2
 have hst := sink_stored HS1.out hg2 ho2
 go_end0
 exact ⟨_, rfl, hst.1, hst.2, hf2⟩

/-- a text's bytes -/
def textL (s : ByteArray) : List UInt8 := putL s.size 4 ++ s.data.toList

set_option maxHeartbeats 400000 in
theorem sinkText_any (g : Nat) (v : Value) (l : List UInt8) (s : ByteArray) (w : World) (h : SinkAt w g v l) (hl : l.length + s.size ≤ 35184372088000) :
  Calls Tryz.prog 53 #[.pointer (some ⟨g, 0, none⟩), .string s] w (SinkDid w g v (l ++ textL s) (.returned (.tuple #[]))) := by
 have HC := Lib.hid (sinkU_any g v l s.size (by omega) 4 w h (by omega))
 clear h
 go_enter Tryz.func53, Tryz.ntmps53
 go_wp2_with fail
 refine HC.out.mono ?_
 rintro e w1 ⟨v1, rfl, hS1, hM1, hF1⟩
 have hlen : (putL s.size 4).length ≤ 8 := by unfold putL; split <;> simp [be_length]
 have HS1 := Lib.hid hS1
 have hc : w1.cell? ⟨g, 0, none⟩ = some v1 := by have := hS1.blk.cell 0; simpa using this
 have hf : w1.frozen? ⟨g, 0, none⟩ = false := hS1.blk.frozen 0
 clear hS1 HC
 go_wp2_with (at_builtin; refine wpList_appstr (base := 0) Tryz.underlying51 str9 i22 rfl _ _ rfl v1 ((l ++ putL s.size 4).map u8v) s rfl rfl HS1.out.own (by simp; omega) (Nat.zero_le _) ?_; intro v' w2 ho2 hg2 hf2; obtain ⟨p2, n2, cap2, rfl⟩ := ho2.sl; have hc2 : w2.cell? ⟨g, 0, none⟩ = some v1 := by { have := (HS1.out.blk.grown hg2 HS1.out.ne).cell 0; simpa using this }; have hfr2 : w2.frozen? ⟨g, 0, none⟩ = false := (HS1.out.blk.grown hg2 HS1.out.ne).frozen 0)
 rw [← List.map_append] at ho2
 have hst := sink_stored HS1.out hg2 ho2
 go_end0
 exact ⟨_, rfl, by rw [textL, ← List.append_assoc]; exact hst.1, hM1.trans hst.2 (fun x h hx => h.elim .inl fun e => (hF1 x e).elim .inr fun h => by omega), hF1.trans hf2 hM1.size⟩

theorem sinkBytes_any (g : Nat) (v : Value) (l : List UInt8) (w : World) (h : SinkAt w g v l) (hl : l.length ≤ 35184372088832) :
  Calls Tryz.prog 56 #[.pointer (some ⟨g, 0, none⟩)] w (RetS w l) := by
 have hc : w.cell? ⟨g, 0, none⟩ = some v := by have := h.blk.cell 0; simpa using this
 have HC := Lib.hid (clone_any v l w h.own.row hl)
 clear h
 go_enter Tryz.func56, Tryz.ntmps56
 go_wp2_with fail
 refine HC.out.mono ?_
 rintro e w1 ⟨b, rfl, hown1, hK1⟩
 go_wp2_with fail
 go_ret
 exact ⟨_, rfl, hown1, hK1⟩

theorem sinkI_any (g : Nat) (v : Value) (l : List UInt8) (x : Int) (hx : -9223372036854775808 ≤ x ∧ x ≤ 9223372036854775807) (k : Int) (w : World) (h : SinkAt w g v l) (hl : l.length ≤ 35184372088832) :
  Calls Tryz.prog 55 #[.pointer (some ⟨g, 0, none⟩), .int .i64 x, .int .i64 k] w (SinkDid w g v (if fitsB x k then l ++ putL (unsV x k) k else l) (.returned (.bool (fitsB x k)))) := by
 have HC := Lib.hid (fits_any x k hx w)
 cases hf : fitsB x k
 ·rw [hf] at HC
  have HE : Hid (SinkDid w g v l (.returned (.bool false)) (.returned (.bool false)) w) := Lib.hid ⟨v, rfl, h, Mods.refl _ _, Fresh.refl _ _⟩
  clear h hf
  go_enter Tryz.func55, Tryz.ntmps55
  go_wp2_with (go_at_call 110; refine HC.out.mono ?_; rintro e w' ⟨rfl, rfl⟩)
  go_ret
  exact HE.out
 ·have hk : okk k = true := by simp [fitsB] at hf; exact hf.1
  have hub : unsV x k < 256 ^ k.toNat := by
   have h1 : (256 : Nat) ^ k.toNat = 2 ^ (8 * k.toNat) := by rw [Nat.pow_mul]
   have h2 := Int.emod_lt_of_pos x (show (0 : Int) < 2 ^ (8 * k.toNat) from Int.pow_pos (by omega))
   have h3 := Int.emod_nonneg x (show (2 : Int) ^ (8 * k.toNat) ≠ 0 from by have := Int.pow_pos (n := 2) (m := 8 * k.toNat) (by omega); omega)
   have h4 : ((2 ^ (8 * k.toNat) : Nat) : Int) = (2 : Int) ^ (8 * k.toNat) := by simp
   unfold unsV
   omega
  have hu : unsV x k < 18446744073709551616 := Nat.lt_of_lt_of_le hub (pow256_le (by simp [okk] at hk; omega))
  have hput : putB (unsV x k) k = true := by simp [putB, hk, hub]
  have HU := Lib.hid (fun (y : Int) (hy : y = (unsV x k : Int)) => (by rw [hy, ← hput]; exact sinkU_any g v l (unsV x k) hu k w h hl : Calls Tryz.prog 54 #[.pointer (some ⟨g, 0, none⟩), .int .u64 y, .int .i64 k] w (SinkDid w g v (l ++ putL (unsV x k) k) (.returned (.bool true)))))
  rw [hf] at HC
  clear h hput hu hub hk
  have hk : okk k = true := by simp [fitsB] at hf; exact hf.1
  clear hf
  obtain ⟨hx1, hx2⟩ := hx
  rcases okk_cases hk with rfl | rfl | rfl | rfl | rfl | rfl | rfl | rfl
  all_goals
   clear hk
   go_enter Tryz.func55, Tryz.ntmps55
   go_wp2_with (go_at_call 110; refine HC.out.mono ?_; rintro e w' ⟨rfl, rfl⟩)
   refine (HU.out _ ?_).mono ?_
   ·unfold unsV
    simp [IntKind.wrap_u64]
    omega
   rintro e w1 ⟨v1, rfl, h1⟩
   go_wp2_with fail
   go_ret
   exact ⟨v1, rfl, h1⟩
end Oct
end Go.Proofs.YtklbemkafdccgaaGreat

/- The source: what it holds, and what each call takes of it. -/
namespace Go.Proofs.YtklbemkafdccgaaGreat
open Go.RowKit
namespace Oct

/-- a source at g: its bytes l, the place, the error -/
structure SrcAt (w : World) (g : Nat) (v : Value) (l : List UInt8) (at' : Nat) (e : Int) : Prop where
 blk : Blk w g 186 #[v, .int .i64 (at' : Int), .int .i64 e]
 own : Own w 0 5 v (l.map u8v)
 le : at' ≤ l.length
 len : l.length ≤ 35184372088832

theorem SrcAt.keeps {w w' : World} {g : Nat} {v : Value} {l : List UInt8} {a : Nat} {e : Int} (h : SrcAt w g v l a e) (k : Keeps w w') : SrcAt w' g v l a e := ⟨h.blk.keeps k, h.own.keeps k, h.le, h.len⟩
theorem SrcAt.mods {w w' : World} {g : Nat} {v : Value} {l : List UInt8} {a : Nat} {e : Int} {S : Nat → Prop} (h : SrcAt w g v l a e) (k : Mods S w w') (hn : ∀ x, Fr g v x → ¬ S x) : SrcAt w' g v l a e := ⟨h.blk.mods k (hn g (.inl rfl)), h.own.mods k fun x hx => hn x (.inr hx), h.le, h.len⟩
theorem SrcAt.ne {w : World} {g : Nat} {v : Value} {l : List UInt8} {a : Nat} {e : Int} (h : SrcAt w g v l a e) : v.ownBlock ≠ some g := h.own.blk_ne h.blk (by decide)
theorem SrcAt.cells {w : World} {g : Nat} {v : Value} {l : List UInt8} {a : Nat} {e : Int} (h : SrcAt w g v l a e) : w.cell? ⟨g, 0, none⟩ = some v ∧ w.cell? ⟨g, 1, none⟩ = some (.int .i64 (a : Int)) ∧ w.cell? ⟨g, 2, none⟩ = some (.int .i64 e) :=
 ⟨by have := h.blk.cell 0; simpa using this, by have := h.blk.cell 1; simpa using this, by have := h.blk.cell 2; simpa using this⟩
theorem SrcAt.free {w : World} {g : Nat} {v : Value} {l : List UInt8} {a : Nat} {e : Int} (h : SrcAt w g v l a e) : w.frozen? ⟨g, 0, none⟩ = false ∧ w.frozen? ⟨g, 1, none⟩ = false ∧ w.frozen? ⟨g, 2, none⟩ = false :=
 ⟨h.blk.frozen 0, h.blk.frozen 1, h.blk.frozen 2⟩
theorem SrcAt.setE {w : World} {g : Nat} {v : Value} {l : List UInt8} {a : Nat} {e : Int} (h : SrcAt w g v l a e) (e' : Int) : SrcAt (w.setCell ⟨g, 2, none⟩ (.int .i64 e')) g v l a e' :=
 ⟨by simpa using h.blk.set_ 2 (.int .i64 e'), h.own.setCell _ h.ne, h.le, h.len⟩
theorem SrcAt.setA {w : World} {g : Nat} {v : Value} {l : List UInt8} {a : Nat} {e : Int} (h : SrcAt w g v l a e) (a' : Nat) (ha : a' ≤ l.length) : SrcAt (w.setCell ⟨g, 1, none⟩ (.int .i64 (a' : Int))) g v l a' e :=
 ⟨by simpa using h.blk.set_ 1 (.int .i64 (a' : Int)), h.own.setCell _ h.ne, ha, h.len⟩

def NewSourceDid (W : World) (l : List UInt8) (e : Ending) (w' : World) : Prop := ∃ g v, e = .returned (.pointer (some ⟨g, 0, none⟩)) ∧ W.heap.size ≤ g ∧ SrcAt w' g v l 0 0 ∧ (∀ x, v.ownBlock = some x → W.heap.size ≤ x) ∧ Keeps W w'

theorem newSource_any (v : Value) (l : List UInt8) (w : World) (hr : Row w v (l.map u8v)) (hl : l.length ≤ 35184372088832) : Calls Tryz.prog 58 #[v] w (NewSourceDid w l) := by
 have HC := Lib.hid (clone_any v l w hr hl)
 clear hr
 go_enter Tryz.func58, Tryz.ntmps58
 go_wp2_with fail
 refine HC.out.mono ?_
 rintro e w1 ⟨b, rfl, hown1, hK1⟩
 have HO := Lib.hid hown1
 obtain ⟨p2, n2, cap2, rfl⟩ := hown1.sl
 clear hown1
 go_wp2
 go_ret
 exact ⟨_, _, rfl, hK1.size, ⟨Blk.new _ _ _ rfl, (HO.out.alloc _).lower (Nat.zero_le _), Nat.zero_le _, hl⟩, HO.out.base, hK1.alloc _⟩

/-- the call changes the source's block alone -/
def SrcDid (W : World) (g : Nat) (v : Value) (l : List UInt8) (a : Nat) (er : Int) (r : Ending) (e : Ending) (w' : World) : Prop :=
 e = r ∧ SrcAt w' g v l a er ∧ Mods (· = g) W w'

def failE (is : Bool) (ne er : Int) : Int := if is && er == 0 then ne else er
def failB (is : Bool) (ne er : Int) : Bool := is && ne != 0 || er != 0
def doneE (er : Int) (a n : Nat) : Int := if er = 0 ∧ a < n then 3 else er
theorem fail_any (g : Nat) (v : Value) (l : List UInt8) (a : Nat) (er : Int) (is : Bool) (ne : Int) (w : World) (h : SrcAt w g v l a er) :
  Calls Tryz.prog 113 #[.pointer (some ⟨g, 0, none⟩), .bool is, .int .i64 ne] w (SrcDid w g v l a (failE is ne er) (.returned (.bool (failB is ne er)))) := by
 obtain ⟨hc0, hc1, hc2⟩ := h.cells
 obtain ⟨hf0, hf1, hf2⟩ := h.free
 cases is
 ·have HE : Hid (SrcDid w g v l a (failE false ne er) (.returned (.bool (failB false ne er))) (.returned (.bool (er != 0))) w) := Lib.hid ⟨by simp [failB], by simpa [failE] using h, Mods.refl _ _⟩
  clear h
  go_enter Tryz.func113, Tryz.ntmps113
  go_wp2
  go_ret
  exact HE.out
 ·by_cases he : er = 0
  ·subst he
   have HE : Hid (SrcDid w g v l a (failE true ne 0) (.returned (.bool (failB true ne 0))) (.returned (.bool (ne != 0))) (w.setCell ⟨g, 2, none⟩ (.int .i64 ne))) := Lib.hid ⟨by simp [failB], by simpa [failE] using h.setE ne, Mods.setCell (p := ⟨g, 2, none⟩) (Mods.refl (· = g) w) (fun _ => rfl) _⟩
   clear h
   go_enter Tryz.func113, Tryz.ntmps113
   go_wp2
   go_ret
   exact HE.out
  ·have he1 : (er == 0) = false := by simp [he]
   have HE : Hid (SrcDid w g v l a (failE true ne er) (.returned (.bool (failB true ne er))) (.returned (.bool (er != 0))) w) := Lib.hid ⟨by simp [failB, he], by simpa [failE, he] using h, Mods.refl _ _⟩
   clear h he
   go_enter Tryz.func113, Tryz.ntmps113
   go_wp2
   go_ret
   exact HE.out

def QuietI (W : World) (n : Int) (e : Ending) (w' : World) : Prop := e = .returned (.int .i64 n) ∧ Keeps W w'

set_option maxHeartbeats 400000 in
theorem left_any (g : Nat) (v : Value) (l : List UInt8) (a : Nat) (er : Int) (w : World) (h : SrcAt w g v l a er) :
  Calls Tryz.prog 66 #[.pointer (some ⟨g, 0, none⟩)] w (QuietI w ((l.length : Int) - a)) := by
 obtain ⟨hc0, hc1, hc2⟩ := h.cells
 have hle := h.le
 obtain ⟨p, cap, rfl, h1, h2⟩ := h.own.row.formB
 clear h
 go_enter Tryz.func66, Tryz.ntmps66
 go_wp2
 go_quiet (fail)
 go_wp2
 go_ret
 exact ⟨rfl, (Keeps.refl _).drewN _⟩

end Oct
end Go.Proofs.YtklbemkafdccgaaGreat

/- The source's U, I, Raw and Text. -/
namespace Go.Proofs.YtklbemkafdccgaaGreat
open Go.RowKit
namespace Oct

theorem quiet_left {P : Program} {f : FuncId} {args : Array Value} {w : World} {n : Nat} {v : Value}
  (h : Calls P f args (w.drewN n) fun e w' => e = .returned v ∧ w.drewN n = w') : Calls P f args (w.drewN n) fun e w'' => e = .returned v ∧ ∃ m, w'' = w.drewN m :=
 h.mono fun _ _ ⟨he, hm⟩ => ⟨he, n, hm.symm⟩

def uE (n a : Nat) (er k : Int) : Int := if er ≠ 0 then er else if okk k = false then 1 else if (n : Int) - a < k then 2 else 0
def uA (n a : Nat) (er k : Int) : Nat := if uE n a er k = 0 then a + k.toNat else a
def uV (l : List UInt8) (a : Nat) (er k : Int) : Nat := if uE l.length a er k = 0 then getV l a k else 0

def SrcDidV (W : World) (g : Nat) (v : Value) (l : List UInt8) (a : Nat) (er : Int) (r : Ending) (e : Ending) (w' : World) : Prop :=
 e = r ∧ SrcAt w' g v l a er ∧ Mods (· = g) W w'

theorem getV_lt {l : List UInt8} {a k : Int} : getV l a k < 18446744073709551616 := by
 unfold getV
 split
 ·rename_i h
  have hk : 1 ≤ k ∧ k ≤ 8 := by simp [getB, okk] at h; omega
  refine Nat.lt_of_lt_of_le (valOf_lt' (j := 8) ?_) (pow256_le (by omega))
  rw [List.length_take]
  omega
 ·omega
theorem uV_lt {l : List UInt8} {a : Nat} {er k : Int} : uV l a er k < 18446744073709551616 := by
 unfold uV
 split
 ·exact getV_lt
 ·omega

set_option maxHeartbeats 1000000 in
theorem srcU_any (g : Nat) (v : Value) (l : List UInt8) (a : Nat) (er k : Int) (w : World) (h : SrcAt w g v l a er) :
  Calls Tryz.prog 62 #[.pointer (some ⟨g, 0, none⟩), .int .i64 k] w (SrcDid w g v l (uA l.length a er k) (uE l.length a er k) (.returned (.int .u64 (uV l a er k : Nat)))) := by
 have HG := Lib.hid (good_any k w)
 by_cases he : er = 0
 ·subst he
  cases hk : okk k
  ·have hE : uE l.length a 0 k = 1 := by simp [uE, hk]
   have H : Hid (uE l.length a 0 k = 1 ∧ uA l.length a 0 k = a ∧ ((uV l a 0 k : Nat) : Int) = 0) := Lib.hid ⟨hE, by simp [uA, hE], by simp [uV, hE]⟩
   have HF := Lib.hid (fail_any g v l a 0 true 1 w h)
   rw [show failB true 1 0 = true from rfl, show failE true 1 0 = 1 from rfl] at HF
   rw [hk] at HG
   clear h hE hk
   go_enter Tryz.func62, Tryz.ntmps62
   go_wp2_with (first | (go_at_call 115; refine HG.out.mono ?_; rintro e w' ⟨rfl, rfl⟩) | (go_at_call 113; refine HF.out.mono ?_; rintro e w1 ⟨rfl, hS1, hM1⟩))
   go_ret
   exact ⟨retI H.out.2.2.symm, by rw [H.out.1, H.out.2.1]; exact hS1, hM1⟩
  ·have HF := Lib.hid (fail_any g v l a 0 false 1 w h)
   rw [show failB false 1 0 = false from rfl, show failE false 1 0 = 0 from rfl] at HF
   rw [hk] at HG
   have hle := h.le
   have hlen := h.len
   by_cases hlt : (l.length : Int) - a < k
   ·have hE : uE l.length a 0 k = 2 := by simp [uE, hk, hlt]
    have H : Hid (uE l.length a 0 k = 2 ∧ uA l.length a 0 k = a ∧ ((uV l a 0 k : Nat) : Int) = 0) := Lib.hid ⟨hE, by simp [uA, hE], by simp [uV, hE]⟩
    clear h hE hk
    go_enter Tryz.func62, Tryz.ntmps62
    go_wp2_with (go_at_call 115; refine HG.out.mono ?_; rintro e w' ⟨rfl, rfl⟩)
    refine HF.out.mono ?_
    rintro e w1 ⟨rfl, hS1, hM1⟩
    have HL := Lib.hid (left_any g v l a 0 w1 hS1)
    go_wp2_with fail
    refine HL.out.mono ?_
    rintro e w2 ⟨rfl, hK2⟩
    have HF2 := Lib.hid (fail_any g v l a 0 true 2 w2 (hS1.keeps hK2))
    rw [show failB true 2 0 = true from rfl, show failE true 2 0 = 2 from rfl] at HF2
    clear hS1 HL
    go_wp2_with fail
    refine HF2.out.mono ?_
    rintro e w3 ⟨rfl, hS3, hM3⟩
    go_wp2_with fail
    go_ret
    exact ⟨retI H.out.2.2.symm, by rw [H.out.1, H.out.2.1]; exact hS3, (hM1.then hK2).trans hM3 fun _ h _ => h⟩
   ·have hE : uE l.length a 0 k = 0 := by simp [uE, hk, hlt]
    obtain ⟨n, rfl, hn1, hn8⟩ := okk_nat hk
    have hgb : getB l a n = true := by simp [getB, hk]; omega
    have H : Hid (uE l.length a 0 n = 0 ∧ uA l.length a 0 n = a + n ∧ uV l a 0 n = getV l a n) := Lib.hid ⟨hE, by simp [uA, hE], by simp [uV, hE]⟩
    have HGB := Lib.hid hgb
    have hd : decide ((l.length : Int) - a < (n : Int)) = false := by simp; omega
    clear h hE hk hgb
    go_enter Tryz.func62, Tryz.ntmps62
    go_wp2_with (go_at_call 115; refine HG.out.mono ?_; rintro e w' ⟨rfl, rfl⟩)
    refine HF.out.mono ?_
    rintro e w1 ⟨rfl, hS1, hM1⟩
    have HL := Lib.hid (left_any g v l a 0 w1 hS1)
    go_wp2_with fail
    refine HL.out.mono ?_
    rintro e w2 ⟨rfl, hK2⟩
    have HF2 := Lib.hid (fail_any g v l a 0 false 2 w2 (hS1.keeps hK2))
    rw [show failB false 2 0 = false from rfl, show failE false 2 0 = 0 from rfl] at HF2
    clear hS1 HL
    go_wp2_with fail
    refine HF2.out.mono ?_
    rintro e w3 ⟨rfl, hS3, hM3⟩
    obtain ⟨hc0, hc1, hc2⟩ := hS3.cells
    obtain ⟨hf0, hf1, hf2⟩ := hS3.free
    obtain ⟨p, cap, rfl, hcap1, hcap2⟩ := hS3.own.row.formB
    have HGet := Lib.hid (fun w hr => get_any (.slice p l.length cap) l a n w hr)
    have HRow := Lib.hid hS3.own.row
    have HS3 := Lib.hid hS3
    rw [HGB.out] at HGet
    clear hS3
    go_wp2_with fail
    go_quiet ((go_at_call 116; exact quiet_left (HGet.out _ (HRow.out.keeps ((Keeps.refl _).drewN _)))))
    go_wp2_with fail
    go_ret
    have hS4 := (HS3.out.keeps ((Keeps.refl _).drewN nq)).setA (a + n) (by omega)
    refine ⟨retI (by rw [H.out.2.2]), by rw [H.out.1, H.out.2.1]; simpa using hS4, ?_⟩
    exact Mods.setCell (p := ⟨g, 1, none⟩) (((hM1.then hK2).trans hM3 fun _ h _ => h).then ((Keeps.refl _).drewN _)) (fun _ => rfl) _
 ·have hE : uE l.length a er k = er := by simp [uE, he]
  have H : Hid (uE l.length a er k = er ∧ uA l.length a er k = a ∧ ((uV l a er k : Nat) : Int) = 0) := Lib.hid ⟨hE, by simp [uA, hE, he], by simp [uV, hE, he]⟩
  have HF := Lib.hid (fail_any g v l a er (!okk k) 1 w h)
  rw [show failB (!okk k) 1 er = true from by simp [failB, he], show failE (!okk k) 1 er = er from by simp [failE, he]] at HF
  clear h hE he
  go_enter Tryz.func62, Tryz.ntmps62
  go_wp2_with (first | (go_at_call 115; refine HG.out.mono ?_; rintro e w' ⟨rfl, rfl⟩) | (go_at_call 113; refine HF.out.mono ?_; rintro e w1 ⟨rfl, hS1, hM1⟩))
  go_ret
  exact ⟨retI H.out.2.2.symm, by rw [H.out.1, H.out.2.1]; exact hS1, hM1⟩

theorem srcI_any (g : Nat) (v : Value) (l : List UInt8) (a : Nat) (er k : Int) (w : World) (h : SrcAt w g v l a er) :
  Calls Tryz.prog 117 #[.pointer (some ⟨g, 0, none⟩), .int .i64 k] w (SrcDid w g v l (uA l.length a er k) (uE l.length a er k) (.returned (.int .i64 (sgnV (uV l a er k) k)))) := by
 have HC := Lib.hid (srcU_any g v l a er k w h)
 have hlt := uV_lt (l := l) (a := a) (er := er) (k := k)
 clear h
 generalize uV l a er k = x at *
 go_enter Tryz.func117, Tryz.ntmps117
 go_wp2_with fail
 refine HC.out.mono ?_
 rintro e w1 ⟨rfl, h1⟩
 go_wp2_with fail
 refine (signed_any x hlt k w1).mono ?_
 rintro e w2 ⟨rfl, rfl⟩
 go_wp2_with fail
 go_ret
 exact ⟨rfl, h1⟩
end Oct
end Go.Proofs.YtklbemkafdccgaaGreat

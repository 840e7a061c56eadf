/- Several texts in one: BdOpen, BdSide, BdPutDk, BdAwake, BodiesOnce. -/
import Derived.Test.YtklbemkafdccgaaGreatK47
import Derived.Test.YtklbemkafdccgaaGreatK35
import Derived.Test.YtklbemkafdccgaaGreatK46
import Derived.Test.YtklbemkafdccgaaGreatK48
import Derived.Test.YtklbemkafdccgaaGreatK45
/- bodies: Open of a new disk. -/
namespace Go.Proofs.YtklbemkafdccgaaGreat
open Go.RowKit
namespace Bds
open Mp Go.Maps
open Vd (DiskAt Dsk On Few More textD)
open Sf (Says Tells sTidy sMake hasD)
open Txl (OneAt One)
section
variable {L : List Nat} {W w w' : World} {g gd n k : Nat} {s : BdP} {d : Dsk}
theorem one_bd (h : OneAt L W w gd d k) (hk : Keeps w w') (hst : StAt w' (Since w w') g gd n s) : BdAt L W w' g gd n s d k := by
 obtain ⟨S, h⟩ := h
 have h2 := h.keeps hk
 have hW := h.keep.size
 exact ⟨S, Since w w', h2.dsk, hst, fun y hy => ⟨(h2.ls y hy).1, (h2.ls y hy).2.1, (h2.ls y hy).2.2, fun ho => by have h3 := (h.ls y hy).2.1; have h4 := ho.1; omega⟩,
  fun y hy => ⟨by have := hy.1; omega, hy.2, fun hh => by have h3 := h.ll y hh; have h4 := hy.1; omega⟩, h2.ll, h2.keep, h2.few⟩
theorem load_nil : loadF (Rcd.fndL (Frm.scanR []).1) 0 = s0 := by kernel_rfl
set_option maxRecDepth 100000 in
set_option maxHeartbeats 4000000 in
theorem bopen_new {room : Int} (h : OneAt L W w gd (dNew room) k) (hk : k ≤ 80000) (hr : 0 ≤ room) : Calls Tryz.prog 25 #[.pointer (some ⟨gd, 0, none⟩)] w fun e w' => ∃ g, e = .returned (.tuple #[.pointer (some ⟨g, 0, none⟩), .int .i64 0]) ∧ BdAt L W w' g gd 0 s0 (Dk room [] (0 + 1 + 1 + 1 + 1)) (k + 8) := by
 obtain ⟨S, h⟩ := h
 have H := Lib.hid h
 have HDN : Hid (Calls Tryz.prog 75 #[.pointer (some ⟨gd, 0, none⟩)] w fun e w' => e = .returned (.bool false) ∧ w = w') := Lib.hid (Vd.down_any w h.dsk)
 have CT : Hid (Calls Tryz.prog 76 #[.pointer (some ⟨gd, 0, none⟩), .string ⟨#[98, 111, 100, 105, 101, 115]⟩] w (Says (Tells S w gd (sTidy nmB (dNew room)) (k + 0)))) := Lib.hid (Sf.stidy_on h.on nmB (by decide) (fun y hy => absurd hy List.not_mem_nil) (N := 0) (Nat.le_refl 0) (by omega))
 rw [tidy_new] at CT
 have HMK := Lib.hid (make_dk hr)
 clear h
 go_enter Tryz.func25, Tryz.ntmps25
 go_wp2_with fail
 refine HDN.out.mono ?_
 rintro e w1 ⟨rfl, rfl⟩
 go_wp2_with fail
 refine CT.out.mono ?_
 rintro e w2 ⟨c, rfl, hc, hon⟩
 obtain rfl : c = 0 := hc
 have HON := Lib.hid hon
 have CH : Hid (Calls Tryz.prog 77 #[.pointer (some ⟨gd, 0, none⟩), .string ⟨#[98, 111, 100, 105, 101, 115]⟩] w2 fun e w' => e = .returned (.bool (hasD (dNew room) nmB)) ∧ w2 = w') := Lib.hid (Sf.has_on hon nmB (by decide))
 rw [has_new] at CH
 clear hon CT HDN
 go_wp2_with fail
 refine CH.out.mono ?_
 rintro e w3 ⟨rfl, rfl⟩
 have CM : Hid (Calls Tryz.prog 78 #[.pointer (some ⟨gd, 0, none⟩), .string ⟨#[98, 111, 100, 105, 101, 115]⟩, .slice none 0 0] w2 (Says (Tells S w gd (sMake nmB [] (dNew room)) (k + 0 + 8)))) := Lib.hid (Sf.smake_on HON.out (by omega) (x := nmB) (b := []) (by decide) (fun w' _ => row_nil w') (by decide))
 rw [HMK.out] at CM
 clear CH HON
 go_wp2_with fail
 refine CM.out.mono ?_
 rintro e w4 ⟨c, rfl, hc, hon⟩
 obtain rfl : c = 0 := hc
 have HO : Hid (OneAt L W w4 gd (Dk room [] (0 + 1 + 1 + 1 + 1)) (k + 8)) := Lib.hid (H.out.rest hon).1
 have CR : Hid (Calls Tryz.prog 79 #[.pointer (some ⟨gd, 0, none⟩), .string ⟨#[98, 111, 100, 105, 101, 115]⟩] w4 (Vd.ReadDid w4 (textD (Dk room [] (0 + 1 + 1 + 1 + 1)) nmB))) := Lib.hid (HO.out.read nmB (by decide))
 rw [text_dk] at CR
 unfold Vd.ReadDid at CR
 clear hon CM H
 go_wp2_with fail
 refine CR.out.mono ?_
 rintro e w5 ⟨bv, rfl, hrow, hk5⟩
 obtain ⟨pb, cb, rfl, -, -⟩ := hrow.form
 have CL := Lib.hid (load_any w5 gd _ [] hrow (by decide))
 unfold LoadDid at CL
 have HO5 := Lib.hid (HO.out.keeps hk5)
 clear hrow hk5 CR HO
 go_wp2_with fail
 refine CL.out.mono ?_
 rintro e w6 ⟨g, n, rfl, hg, hn, hst, hk6⟩
 have HS : Hid (BdAt L W w6 g gd 0 s0 (Dk room [] (0 + 1 + 1 + 1 + 1)) (k + 8)) := Lib.hid (by
  obtain rfl : n = 0 := by
   have e : (Rcd.fndL (Frm.scanR []).1).length = 0 := by kernel_rfl
   omega
  have hst : StAt w6 (Since w5 w6) g gd 0 (loadF (Rcd.fndL (Frm.scanR []).1) 0) := hst
  rw [load_nil] at hst
  exact one_bd HO5.out hk6 hst)
 clear hst hk6 CL
 go_wp2_with fail
 go_ret2
 exact ⟨g, rfl, HS.out⟩
end
end Bds
end Go.Proofs.YtklbemkafdccgaaGreat

/- bodies: a store beside the law's own slices. -/
namespace Go.Proofs.YtklbemkafdccgaaGreat
open Go.RowKit
namespace Bds
open Vd (DiskAt Dsk On Few More)
open Frm (ownsRow_mods ownsRow_keeps ownsRow_form ownsRow_base)
section
variable {L L' : List Nat} {W w w' : World} {g gd n k : Nat} {s : BdP} {d : Dsk}
/-- blocks of the law's own were written; new ones are set aside -/
theorem bd_mods (h : BdAt L W w g gd n s d k) {T : Nat → Prop} (hm : Mods T w w') (hT : ∀ y, T y → y ∈ L) (hW : ∀ y, T y → W.heap.size ≤ y) (hL : ∀ y ∈ L', y ∈ L ∨ (w.heap.size ≤ y ∧ y < w'.heap.size)) : BdAt L' W w' g gd n s d k := by
 obtain ⟨S, O, h⟩ := h
 have hs := hm.size
 refine ⟨S, O, h.dsk.apart hm (fun y hy ht => (h.ls y hy).2.2.1 (hT y ht)), h.st.mods hm (fun y hy ht => (h.lo y hy).2.2 (hT y ht)), fun y hy => ⟨(h.ls y hy).1, Nat.lt_of_lt_of_le (h.ls y hy).2.1 hs, fun hl => ?_, (h.ls y hy).2.2.2⟩, fun y hy => ⟨(h.lo y hy).1, Nat.lt_of_lt_of_le (h.lo y hy).2.1 hs, fun hl => ?_⟩, fun y hy => ?_, hm.keeps h.keep hW, h.few⟩
 ·rcases hL y hl with h1 | h1
  ·exact (h.ls y hy).2.2.1 h1
  ·have := (h.ls y hy).2.1; omega
 ·rcases hL y hl with h1 | h1
  ·exact (h.lo y hy).2.2 h1
  ·have := (h.lo y hy).2.1; omega
 ·rcases hL y hy with h1 | h1
  ·exact Nat.lt_of_lt_of_le (h.ll y h1) hs
  ·exact h1.2
/-- a slice with its block set aside -/
def ownL (v : Value) (L : List Nat) : List Nat := v.ownBlock.toList ++ L
theorem ownL_mem {v : Value} {y : Nat} : y ∈ ownL v L ↔ v.ownBlock = some y ∨ y ∈ L := by
 unfold ownL
 rw [List.mem_append, Option.mem_toList]
theorem own_lt {base : Nat} {e : TypeId} {v : Value} {l : List Value} (h : Own w base e v l) {y : Nat} (hy : v.ownBlock = some y) : base ≤ y ∧ y < w.heap.size := by
 refine ⟨ownsRow_base h y hy, ?_⟩
 rcases h.2 with ⟨hv, -⟩ | ⟨b, cap, cur, hv, hb, hg, -⟩
 ·subst hv; cases hy
 ·subst hv
  simp only [Value.ownBlock, Option.some.injEq] at hy
  subst hy
  exact (Array.getElem?_eq_some_iff.1 hg).1
/-- a new slice -/
theorem bd_new (h : BdAt L W w g gd n s d k) (hk : Keeps w w') {e : TypeId} {v : Value} {l : List Value} (ho : Own w' w.heap.size e v l) : BdAt (ownL v L) W w' g gd n s d k :=
 bd_mods h (T := fun _ => False) (Mods.of_keeps hk) (fun _ h => h.elim) (fun _ h => h.elim) (fun y hy => by
  rcases ownL_mem.1 hy with hy | hy
  ·exact .inr (own_lt ho hy)
  ·exact .inl hy)
/-- a slice that grew -/
theorem bd_grow (h : BdAt L W w g gd n s d k) {e : TypeId} {v v' : Value} {l : List Value} {base : Nat} (hv : ∀ y, v.ownBlock = some y → y ∈ L ∧ W.heap.size ≤ y) (hg : w.grownBy w' v.ownBlock) (hf : Fresh w v v') (ho : Own w' base e v' l) : BdAt (ownL v' L) W w' g gd n s d k :=
 bd_mods h (T := fun y => v.ownBlock = some y) ((Mods.refl _ w).grown hg (fun k hk _ => hk)) (fun y hy => (hv y hy).1) (fun y hy => (hv y hy).2) (fun y hy => by
  rcases ownL_mem.1 hy with hy | hy
  ·rcases hf y hy with h1 | h1
   ·exact .inl (hv y h1).1
   ·exact .inr ⟨h1, (own_lt ho hy).2⟩
  ·exact .inl hy)
/-- what a call on store and disk leaves of a slice of the law's own -/
theorem rest_own {e : TypeId} {v : Value} {l : List Value} {base : Nat} (hm : Mods (fun y => W.heap.size ≤ y ∧ y ∉ L) w w') (ho : Own w base e v l) (hv : ∀ y, v.ownBlock = some y → y ∈ L) : Own w' base e v l :=
 ownsRow_mods ho hm (fun y hy ht => ht.2 (hv y hy))
end
end Bds
end Go.Proofs.YtklbemkafdccgaaGreat

/- bodies: Put where no call fails. -/
namespace Go.Proofs.YtklbemkafdccgaaGreat
open Go.RowKit
namespace Bds
open Vd (Dsk Few)
section
variable {L : List Nat} {W w : World} {g gd n k : Nat} {s : BdP} {room : Int} {a : Str} {c : Int}
theorem put_dk (h : BdAt L W w g gd n s (Dk room a c) k) (hk : k ≤ 80000) (hn : n < 900000) (hsl : s.L.length ≤ 900000) {b : Str} {N : Int} {s' : BdP} (hN : s.next = N) (hs : (addB s N b).1 = s') (hnx : 1 ≤ N ∧ N ≤ 2147483648) {v : Value} (hr : ∀ T w', (∀ y, T y → W.heap.size ≤ y ∧ y ∉ L) → Mods T w w' → Row w' v (b.map u8v)) (hb : b.length ≤ 32768) (hf : ¬ 0 < findB s b)
  (hfl : (frB (N, b)).length ≤ 1000000) (hroom : ((a.length + (frB (N, b)).length : Nat) : Int) ≤ room) :
  Calls Tryz.prog 26 #[.pointer (some ⟨g, 0, none⟩), v] w fun e w' => e = .returned (.tuple #[.int .i64 N, .int .i64 0]) ∧ BdRest L W w g gd (n + 1) s' (Dk room (a ++ frB (N, b)) (c + 1 + 1)) (k + 3) w' := by
 subst hN
 have he := sappend_dk (n := c) hroom
 have := put_new h hk hn hsl hnx hr hb hf (by omega) (by rw [he])
 rw [he, hs] at this
 exact this
/-- any Put of a law: what was there, or a new one -/
theorem put_law (h : BdAt L W w g gd n s (Dk room a c) k) (hg : Good s) (hk : k ≤ 80000) (hn : n < 900000) (hsl : s.L.length ≤ 10000) {v : Value} {b : Str} (hr : ∀ T w', (∀ y, T y → W.heap.size ≤ y ∧ y ∉ L) → Mods T w w' → Row w' v (b.map u8v)) (hb : b.length ≤ 3000) (hroom : ((a.length + 7000 : Nat) : Int) ≤ room) (ha : a = framesB s.L) :
  Calls Tryz.prog 26 #[.pointer (some ⟨g, 0, none⟩), v] w fun e w' => e = .returned (.tuple #[.int .i64 (putN s b), .int .i64 0]) ∧ ∃ c', BdRest L W w g gd (n + 1) (putB s b) (Dk room (framesB (putB s b).L) c') (k + 3) w' := by
 have hfl := frB_len (x := (s.next, b)) hb (Nat.le_refl _)
 by_cases hf : 0 < findB s b
 ·have hr0 := hr (fun _ => False) w (fun _ hf => hf.elim) (Mods.refl _ _)
  refine (put_old h (by omega) hr0 (by omega) hf).mono ?_
  rintro e w' ⟨rfl, hkw⟩
  unfold putN putB
  rw [if_pos hf, if_pos hf]
  subst ha
  exact ⟨rfl, c, (h.keeps hkw).mono (by omega) (by omega), Mods.of_keeps hkw⟩
 ·have hnx := hg.next
  refine (put_dk h hk hn (by omega) rfl rfl (by omega) hr (by omega) hf (by omega) (by omega)).mono ?_
  rintro e w' ⟨rfl, hx⟩
  unfold putN putB
  rw [if_neg hf, if_neg hf]
  refine ⟨rfl, c + 1 + 1, ?_⟩
  have e2 : (addB s s.next b).1.L = s.L ++ [(s.next, b)] := by rw [hg.add hf]
  rw [e2, framesB_app, show framesB [(s.next, b)] = frB (s.next, b) from by simp [framesB], ← ha]
  exact hx
end
end Bds
end Go.Proofs.YtklbemkafdccgaaGreat

/- law19's awake. -/
namespace Go.Proofs.YtklbemkafdccgaaGreat
open Go.RowKit
namespace Bds
open Vd (Dsk Few At)
open Sf (sSwap sAppend)
theorem few_new (room : Int) : Few (dNew room) 1 :=
 ⟨by show (0 : Int) ≤ 0; omega, by show (0 : Int) ≤ 1; omega, Nat.zero_le _, Nat.zero_le _, fun y hy => absurd hy (List.not_mem_nil), Nat.zero_le _, Nat.zero_le _⟩
section
variable {L : List Nat} {W w : World} {g gd n k : Nat} {s : BdP} {d : Dsk}
/-- a literal of bytes, set aside -/
theorem bd_lit (h : BdAt L W w g gd n s d k) (C : Array Value) (t : TypeId) (fr : Nat × Nat) : BdAt (w.heap.size :: L) W (w.alloc (.cells C t fr)) g gd n s d k :=
 h.aside ((Keeps.refl _).alloc _) (Nat.le_refl _) (by rw [Frm.alloc_size]; omega)
theorem lit_stay {v : Value} {b : Nat} {m c : Nat} {l : List Value} (hv : v = .slice (some ⟨b, 0, none⟩) m c) (hr : Row w v l) : ∀ T w', (∀ y, T y → W.heap.size ≤ y ∧ y ∉ b :: L) → Mods T w w' → Row w' v l := fun T w' hT hm => by
 subst hv
 exact Vd.row_modsB hr hm (fun hh => (hT b hh).2 (List.mem_cons_self ..))
end
def b1 : BdP := ⟨2, 0, [(1, [97])]⟩
def b2 : BdP := ⟨3, 0, [(1, [97]), (2, [98])]⟩
def b3 : BdP := ⟨3, 0, [(1, [97]), (2, [])]⟩
theorem b1_is : (addB s0 s0.next [97]).1 = b1 := by kernel_rfl
theorem b2_is : (addB b1 b1.next [98]).1 = b2 := by kernel_rfl
theorem b0_f : findB s0 [97] = 0 := by kernel_rfl
theorem b1_f : findB b1 [98] = 0 := by kernel_rfl
theorem b2_f : findB b2 [97] = 1 := by kernel_rfl
theorem b3_f : findB b3 [98] = 0 := by kernel_rfl
theorem b3_is : keptB b2 [1] = b3 := by kernel_rfl
theorem b2_o : outB b2 [1] = 1 := by kernel_rfl
theorem b2_up : Up b2 := by
 refine ⟨by unfold AscB b2; decide, fun x hx => ?_, by unfold b2; decide, fun _ => by kernel_rfl⟩
 simp only [b2, List.mem_cons, List.not_mem_nil, or_false] at hx
 rcases hx with rfl | rfl <;> decide
theorem fr1 : (frB (1, [97])).length ≤ 100 := of_decide_eq_true (by kernel_rfl)
theorem fr2 : (frB (2, [98])).length ≤ 100 := of_decide_eq_true (by kernel_rfl)
theorem fr3 : (framesB (fullB b2 [1])).length ≤ 200 := of_decide_eq_true (by kernel_rfl)
theorem fr4 : (framesB b2.L).length ≤ 200 := of_decide_eq_true (by kernel_rfl)
set_option maxRecDepth 100000 in
set_option maxHeartbeats 4000000 in
theorem awake19_any (w : World) : Calls Tryz.prog 22 #[] w fun e w' => e = .returned (.bool true) ∧ Keeps w w' := by
 have HNW := Lib.hid (Vd.new_at (Keeps.refl w) (.slice none 0 0) [] (Vd.rowS_none _) (fun f hf => absurd hf (List.not_mem_nil)) 1000)
 unfold Vd.NewAt at HNW
 rw [dNew_is 1000 (by omega) (by omega)] at HNW
 have kc := fun (w : World) (C : Array Value) (n c : Nat) => Lib.run_convert_bytes_const (P := Tryz.prog) w 51 5 C n c Tryz.underlying51 Tryz.underlying5
 go_enter Tryz.func22, Tryz.ntmps22
 go_wp2_with fail
 refine HNW.out.mono ?_
 rintro e w1 ⟨hk, gd, rfl, hd⟩
 have H1 := Lib.hid (show At w w1 gd (dNew 1000) 1 from ⟨hd, hk, few_new _⟩)
 clear hd hk HNW
 have HOP := Lib.hid (bopen_new (Txl.At.one H1.out) (by omega) (by omega))
 go_wp2_with fail
 refine HOP.out.mono ?_
 rintro e w2 ⟨g, rfl, h2⟩
 have H2 := Lib.hid h2
 have kc1 := kc w2 #[.int .u8 97] 1 1
 clear h2 HOP H1
 have HP1 := Lib.hid (put_dk (s' := b1) (N := 1) (bd_lit H2.out #[.int .u8 97] 5 (1, 2)) (by omega) (by omega) (by decide) rfl b1_is (by decide) (lit_stay rfl (Frm.row_mark (l := [97].map u8v) rfl rfl (by decide))) (b := [97]) (by decide) (by rw [b0_f]; decide) (by have := fr1; omega) (by have := fr1; simp; omega))
 go_wp2_with fail
 refine HP1.out.mono ?_
 rintro e w3 ⟨rfl, h3, -⟩
 have H3 := Lib.hid (h3.drop (L' := []) (fun y hy => absurd hy List.not_mem_nil))
 have kc2 := kc w3 #[.int .u8 98] 1 1
 clear h3 HP1 kc1
 have HP2 := Lib.hid (put_dk (s' := b2) (N := 2) (bd_lit H3.out #[.int .u8 98] 5 (1, 2)) (by omega) (by omega) (by decide) rfl b2_is (by decide) (lit_stay rfl (Frm.row_mark (l := [98].map u8v) rfl rfl (by decide))) (b := [98]) (by decide) (by rw [b1_f]; decide) (by have := fr2; omega) (by have := fr1; have := fr2; simp; omega))
 go_wp2_with fail
 refine HP2.out.mono ?_
 rintro e w4 ⟨rfl, h4, -⟩
 have H4 := Lib.hid (h4.drop (L' := []) (fun y hy => absurd hy List.not_mem_nil))
 have kc3 := kc w4 #[.int .u8 97] 1 1
 clear h4 HP2 kc2
 have HP3 := Lib.hid (put_old (bd_lit H4.out #[.int .u8 97] 5 (1, 2)) (by decide) (Frm.row_mark (l := [97].map u8v) rfl rfl (by decide)) (b := [97]) (by decide) (by rw [b2_f]; decide))
 rw [b2_f] at HP3
 have HL4 := Lib.hid (bd_lit H4.out #[.int .u8 97] 5 (1, 2))
 go_wp2_with fail
 refine HP3.out.mono ?_
 rintro e w5 ⟨rfl, hk5⟩
 have H5 := Lib.hid ((HL4.out.keeps hk5).drop (L' := []) (fun y hy => absurd hy List.not_mem_nil))
 clear hk5 HP3 HL4 kc3
 have HKP := Lib.hid (keep_any (bd_lit H5.out #[.int .i64 1] 3 (0, 0)) (by omega) (by omega) b2_up (by decide) (fun x hx => by
  simp only [b2, List.mem_cons, List.not_mem_nil, or_false] at hx
  rcases hx with rfl | rfl <;> decide) (by have := fr4; omega) rfl (v := .slice (some ⟨w5.heap.size, 0, none⟩) 1 1) (l := [1]) (Frm.row_mark (l := [Value.int .i64 1]) rfl rfl (by decide)) (by decide) (fun _ => sswap_dk (by have := fr1; have := fr2; have := fr3; simp; omega)))
 unfold KeepDid at HKP
 simp only [b2_o, b3_is] at HKP
 go_wp2_with fail
 refine HKP.out.mono ?_
 rintro e w6 (⟨h, -⟩ | ⟨-, rfl, n6, -, h6, -⟩)
 ·exact absurd h (by decide)
 have H6 := Lib.hid (h6.drop (L' := []) (fun y hy => absurd hy List.not_mem_nil))
 obtain ⟨O6, hst6⟩ := H6.out.st
 have CG := Lib.hid (get_any hst6 (x := 1) (by decide) (by decide))
 rw [show (bodyOf b3.L 1).getD [] = [97] from by kernel_rfl, show decide ((1 : Int) ∈ keysB b3) = true from by kernel_rfl] at CG
 clear h6 HKP hst6
 go_wp2_with fail
 refine CG.out.mono ?_
 rintro e w7 ⟨v, rfl, ho7, hk7⟩
 obtain ⟨p7, c7, rfl, -, -⟩ := ho7.row.formB
 have HO7 := Lib.hid ho7
 have H7 := Lib.hid (H6.out.keeps hk7)
 have kc4 := kc w7 #[.int .u8 98] 1 1
 have H8 := Lib.hid (bd_lit H7.out #[.int .u8 98] 5 (1, 2))
 obtain ⟨O8, hst8⟩ := H8.out.st
 have CF := Lib.hid (find_any _ O8 g gd n6 b3 hst8 (by decide) (.slice (some ⟨w7.heap.size, 0, none⟩) 1 1) [98] (Frm.row_mark (l := [98].map u8v) rfl rfl (by decide)) (by decide))
 rw [b3_f, show decide ((0 : Int) < 0) = false from rfl] at CF
 clear ho7 hk7 CG hst8 kc
 go_wp2_with fail
 refine CF.out.mono ?_
 rintro e w9 ⟨rfl, hk9⟩
 have H9 := Lib.hid (H8.out.keeps hk9)
 obtain ⟨O9, hst9⟩ := H9.out.st
 have CX := Lib.hid (next_any hst9)
 rw [show b3.next = 3 from rfl] at CX
 have hstr : (convert 51 9 (.slice p7 1 c7)).run Tryz.prog w9 = .ok (.string ⟨#[97]⟩) w9 := Frm.str_at' (l := [97]) (HO7.out.row.keeps (((Keeps.refl _).alloc (.cells #[.int .u8 98] 5 (1, 2))).trans hk9))
 clear hk9 CF hst9 kc4
 go_wp2_with fail
 refine CX.out.mono ?_
 rintro e w10 ⟨rfl, rfl⟩
 go_wp2_with fail
 go_ret
 exact ⟨rfl, H9.out.kp⟩
end Bds
end Go.Proofs.YtklbemkafdccgaaGreat

/- BodiesOnce: its walk. -/
namespace Go.Proofs.YtklbemkafdccgaaGreat
open Go.RowKit
namespace Bds
open Oct Frm
open Vd (Dsk)
/-- the law's disk -/
def DL (l : List Str) (j : Nat) (c : Int) : Dsk := Dk 1048576 (framesB (putAt l j).L) c
/-- where the puts stand: the store, and the numbers so far -/
structure OnAt (W wr : World) (l : List Str) (g gd j : Nat) (nv : Value) : Prop where
 le : j ≤ l.length
 at_ : ∃ L c, BdAt L W wr g gd j (putAt l j) (DL l j c) (9 + 3 * j) ∧ ∀ y, nv.ownBlock = some y → y ∈ L
 own : Own wr W.heap.size 3 nv (((putNs l).take j).map (.int .i64))
/-- bodies of a law -/
def Small (l : List Str) : Prop := l.length ≤ 30 ∧ ∀ x ∈ l, x.length ≤ 3000
theorem small_at {l : List Str} (h : Small l) {j : Nat} (hj : j ≤ l.length) : Good (putAt l j) ∧ (putAt l j).L.length ≤ 30 ∧ (framesB (putAt l j).L).length ≤ 210000 ∧ ∀ x ∈ (putAt l j).L, x.2.length ≤ 3000 := by
 obtain ⟨h1, h2, h3⟩ := good_at l j hj
 have h4 : ∀ x ∈ (putAt l j).L, x.2.length ≤ 3000 := fun x hx => h.2 _ (List.mem_of_mem_take (h3 x hx))
 have h5 := framesB_len _ h4
 have h6 := h.1
 refine ⟨h1, by omega, ?_, h4⟩
 have : 7000 * (putAt l j).L.length ≤ 7000 * 30 := Nat.mul_le_mul_left _ (by omega)
 omega
/-- a Put of the law -/
theorem put_at {L : List Nat} {W w : World} {l : List Str} {g gd j : Nat} {c : Int} (h : BdAt L W w g gd j (putAt l j) (DL l j c) (9 + 3 * j)) (hs : Small l) (hj : j < l.length) {v : Value} (hr : ∀ T w', (∀ y, T y → W.heap.size ≤ y ∧ y ∉ L) → Mods T w w' → Row w' v (l[j].map u8v)) :
  Calls Tryz.prog 26 #[.pointer (some ⟨g, 0, none⟩), v] w fun e w' => e = .returned (.tuple #[.int .i64 (putN (putAt l j) l[j]), .int .i64 0]) ∧ ∃ c', BdRest L W w g gd (j + 1) (putAt l (j + 1)) (DL l (j + 1) c') (9 + 3 * (j + 1)) w' := by
 obtain ⟨h1, h2, h3, -⟩ := small_at hs (Nat.le_of_lt hj)
 have h4 := hs.1
 rw [putAt_succ hj, show DL l (j + 1) = fun c' => Dk 1048576 (framesB (putB (putAt l j) l[j]).L) c' from by funext c'; unfold DL; rw [putAt_succ hj]]
 exact put_law h h1 (by omega) (by omega) (by omega) hr (hs.2 _ (List.getElem_mem hj)) (by omega) rfl
end Bds
end Go.Proofs.YtklbemkafdccgaaGreat

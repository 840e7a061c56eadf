/- Several texts in one: UsRefPos, UsSameA, UsRefPlain. -/
import Derived.Test.YtklbemkafdccgaaGreatUsClone
import Derived.Test.YtklbemkafdccgaaGreatK32
import Derived.Test.YtklbemkafdccgaaGreatK25
/- ref13: a table by value; the place of a user's name, of an alias's. -/
namespace Go.Proofs.YtklbemkafdccgaaGreat
open Go.RowKit
namespace Usr
open Adr (Str)
open Mp Go.Maps
theorem us_at {l : List UsrP} {i : Nat} (h : i < l.length) {j : Nat} (hj : j < 4) : (l.flatMap usC)[i * 4 + j]? = (usC l[i])[j]? := flat_get usC_len l i j _ (List.getElem?_eq_getElem h) hj
/-- a reference table's slices -/
structure RTab (w : World) (uv av : Value) (t : TabP) (L : List (AlP × Value)) : Prop where
 us : RowS w 4 uv t.us.length (t.us.flatMap usC)
 al : RowS w 2 av L.length (L.flatMap alC)
 alm : L.map (·.1) = t.al
 pay : ∀ x ∈ L, Row w x.2 (x.1.tos.map strV)
theorem RTab.keeps {w w' : World} {uv av : Value} {t : TabP} {L : List (AlP × Value)} (h : RTab w uv av t L) (k : Keeps w w') : RTab w' uv av t L :=
 ⟨h.us.keeps k, h.al.keeps k, h.alm, fun x hx => (h.pay x hx).keeps k⟩
def rtV (uv av : Value) (t : TabP) : Value := .agg #[.string (bstr t.dom), .int .i64 t.next, uv, av]
/-- the place of a name; -1: it isn't there -/
def posL (l : List Str) (name : Str) : Int := ((l.findIdx? fun x => decide (x = name)).map fun i => (i : Int)).getD (-1)
theorem posL_at {l : List Str} {name : Str} {j : Nat} (hj : j < l.length) (h : l[j] = name) (hb : ∀ k (hk : k < j), l[k]'(Nat.lt_trans hk hj) ≠ name) : posL l name = j := by
 unfold posL
 rw [List.findIdx?_eq_some_iff_getElem.2 ⟨hj, by simpa using h, fun k hk => by simpa using hb k hk⟩]
 rfl
theorem posL_none {l : List Str} {name : Str} (h : name ∉ l) : posL l name = -1 := by
 unfold posL
 rw [List.findIdx?_eq_none_iff.2 (fun x hx => by simp only [decide_eq_false_iff_not]; exact fun e => h (e ▸ hx))]
 rfl
set_option maxRecDepth 100000 in
set_option maxHeartbeats 2000000 in
theorem rUser_any (w : World) (uv av : Value) (t : TabP) (L : List (AlP × Value)) (h : RTab w uv av t L) (hl : t.us.length ≤ 1000000) (name : Str) : Calls Tryz.prog 99 #[rtV uv av t, .string (bstr name)] w fun e w' => e = .returned (.int .i64 (posL (namesU t) name)) ∧ Keeps w w' := by
 obtain ⟨pu, nu, cu, rfl⟩ : ∃ p n c, uv = .slice p n c := by rcases h.us.2 with ⟨a0, cap, rfl, -⟩ | ⟨b, off, cap, rfl, -⟩ <;> exact ⟨_, _, _, rfl⟩
 obtain ⟨pa, na, ca, rfl⟩ : ∃ p n c, av = .slice p n c := by rcases h.al.2 with ⟨a0, cap, rfl, -⟩ | ⟨b, off, cap, rfl, -⟩ <;> exact ⟨_, _, _, rfl⟩
 obtain rfl : nu = t.us.length := by
  rcases h.us.2 with ⟨a0, cap, hv, h0, -⟩ | ⟨b, off, cap, hv, -⟩
  ·simp only [Value.slice.injEq] at hv; rw [hv.2.1, h0]
  ·simp only [Value.slice.injEq] at hv; exact hv.2.1
 have HR := Lib.hid h
 have HB := Lib.hid (Blk.new w 32 #[.string (bstr t.dom), .int .i64 t.next, .slice pu t.us.length cu, .slice pa na ca] rfl)
 have HK := Lib.hid (show Keeps w (w.alloc (.cells #[.string (bstr t.dom), .int .i64 t.next, .slice pu t.us.length cu, .slice pa na ca] 32)) from (Keeps.refl _).alloc _)
 have HNL := Lib.hid (show (namesU t).length = t.us.length from by simp [namesU])
 have HAT := Lib.hid (show ∀ j (hj : j < t.us.length), ∃ (hj' : j < (namesU t).length), (namesU t)[j] = t.us[j].name from fun j hj => ⟨by rw [HNL.out]; exact hj, by simp [namesU]⟩)
 clear h
 unfold rtV
 go_enter Tryz.func99, Tryz.ntmps99
 go_upto_region 1 with fail
 obtain ⟨q, hq⟩ : ∃ z, w.heap.size = z := ⟨_, rfl⟩
 rw [hq] at HB ⊢
 clear hq
 generalize w.alloc _ = w1 at *
 go_wp2_with fail
 go_loopw [5] (fun iv wr => ∃ j : Nat, iv = .int .i64 (j : Int) ∧ j ≤ t.us.length ∧ Hid (Keeps w1 wr ∧ ∀ k (hk : k < j) (hk' : k < (namesU t).length), (namesU t)[k] ≠ name)) (fun iv _ => t.us.length - (RowKit.intOf iv).toNat)
 case atStart => exact ⟨0, rfl, Nat.zero_le _, Lib.hid ⟨Keeps.refl _, fun k hk => by omega⟩⟩
 case round =>
  obtain ⟨j, rfl, hj, HH⟩ := hrel
  obtain ⟨wz, rfl⟩ : ∃ z : World, z = wr := ⟨_, rfl⟩
  have q2 : wz.cell? ⟨q, 2, none⟩ = some (.slice pu t.us.length cu) := by rw [(HB.out.keeps HH.out.1).cell]; rfl
  have hw : IntKind.i64.wrap ((j : Int) + 1) = (j : Int) + 1 := IntWalk.i64_in _ (by omega)
  by_cases hlt : j < t.us.length
  ·have hcl : ∃ bs o, pu = some ⟨bs, o, none⟩ ∧ wz.cell? ⟨bs, o + j * 4 + 1, none⟩ = some (.string (bstr t.us[j].name)) := by
    rcases ((HR.out.keeps HK.out).keeps HH.out.1).us.2 with ⟨a0, cap, hv, h0, -⟩ | ⟨b, off, cap, hv, -, -, hc⟩
    ·omega
    ·simp only [Value.slice.injEq] at hv
     exact ⟨b, off, hv.1, hc (j * 4 + 1) _ (by rw [us_at hlt (show 1 < 4 by decide)]; rfl)⟩
   obtain ⟨bs, o, rfl, hcell⟩ := hcl
   obtain ⟨hj', hje⟩ := HAT.out j hlt
   have HJE := Lib.hid hje
   generalize t.us[j].name = X at *
   obtain ⟨bq, hbq⟩ : ∃ z, decide (X = name) = z := ⟨_, rfl⟩
   have HBQ := Lib.hid hbq
   have hte : ((bstr X).toList == (bstr name).toList) = bq := by rw [bstr_toList, bstr_toList, ← hbq, Bool.eq_iff_iff]; simp
   clear hje hbq
   cases bq with
   |true =>
    have HP := Lib.hid (posL_at hj' (HJE.out.trans (of_decide_eq_true HBQ.out)) (fun k hk => HH.out.2 k hk _))
    go_wp2_with fail
    go_ret
    exact ⟨by rw [HP.out]; rfl, HK.out.trans HH.out.1⟩
   |false =>
    have HX := Lib.hid (show ∀ k (hk : k < j + 1) (hk' : k < (namesU t).length), (namesU t)[k] ≠ name from fun k hk hk' => by
     by_cases e : k = j
     ·subst e; rw [HJE.out]; exact of_decide_eq_false HBQ.out
     ·exact HH.out.2 k (by omega) hk')
    go_wp2_with fail
    go_roundw
    case rel => exact ⟨j + 1, by simp, by omega, Lib.hid ⟨HH.out.1, HX.out⟩⟩
    case measure =>
     simp only [RowKit.intOf]
     omega
  ·have HP := Lib.hid (posL_none (l := namesU t) (name := name) (fun hm => by
    obtain ⟨k, hk, e⟩ := List.getElem_of_mem hm
    exact HH.out.2 k (by have := HNL.out; omega) hk e))
   have hd : decide ((j : Int) < (t.us.length : Int)) = false := decide_eq_false (by omega)
   go_wp2_with fail
   go_ret
   exact ⟨by rw [HP.out]; rfl, HK.out.trans HH.out.1⟩
set_option maxRecDepth 100000 in
set_option maxHeartbeats 2000000 in
theorem rAlias_any (w : World) (uv av : Value) (t : TabP) (L : List (AlP × Value)) (h : RTab w uv av t L) (hl : L.length ≤ 1000000) (name : Str) : Calls Tryz.prog 100 #[rtV uv av t, .string (bstr name)] w fun e w' => e = .returned (.int .i64 (posL (namesA t) name)) ∧ Keeps w w' := by
 obtain ⟨pu, nu, cu, rfl⟩ : ∃ p n c, uv = .slice p n c := by rcases h.us.2 with ⟨a0, cap, rfl, -⟩ | ⟨b, off, cap, rfl, -⟩ <;> exact ⟨_, _, _, rfl⟩
 obtain ⟨pa, na, ca, rfl⟩ : ∃ p n c, av = .slice p n c := by rcases h.al.2 with ⟨a0, cap, rfl, -⟩ | ⟨b, off, cap, rfl, -⟩ <;> exact ⟨_, _, _, rfl⟩
 obtain rfl : na = L.length := by
  rcases h.al.2 with ⟨a0, cap, hv, h0, -⟩ | ⟨b, off, cap, hv, -⟩
  ·simp only [Value.slice.injEq] at hv; rw [hv.2.1, h0]
  ·simp only [Value.slice.injEq] at hv; exact hv.2.1
 have HR := Lib.hid h
 have HB := Lib.hid (Blk.new w 32 #[.string (bstr t.dom), .int .i64 t.next, .slice pu nu cu, .slice pa L.length ca] rfl)
 have HK := Lib.hid (show Keeps w (w.alloc (.cells #[.string (bstr t.dom), .int .i64 t.next, .slice pu nu cu, .slice pa L.length ca] 32)) from (Keeps.refl _).alloc _)
 have HNL := Lib.hid (show (namesA t).length = L.length from by rw [namesA, ← HR.out.alm]; simp)
 have HAT := Lib.hid (show ∀ j (hj : j < L.length), ∃ (hj' : j < (namesA t).length), (namesA t)[j] = L[j].1.name from fun j hj => ⟨by rw [HNL.out]; exact hj, by simp only [namesA, ← HR.out.alm]; simp⟩)
 clear h
 unfold rtV
 go_enter Tryz.func100, Tryz.ntmps100
 go_upto_region 1 with fail
 obtain ⟨q, hq⟩ : ∃ z, w.heap.size = z := ⟨_, rfl⟩
 rw [hq] at HB ⊢
 clear hq
 generalize w.alloc _ = w1 at *
 go_wp2_with fail
 go_loopw [5] (fun iv wr => ∃ j : Nat, iv = .int .i64 (j : Int) ∧ j ≤ L.length ∧ Hid (Keeps w1 wr ∧ ∀ k (hk : k < j) (hk' : k < (namesA t).length), (namesA t)[k] ≠ name)) (fun iv _ => L.length - (RowKit.intOf iv).toNat)
 case atStart => exact ⟨0, rfl, Nat.zero_le _, Lib.hid ⟨Keeps.refl _, fun k hk => by omega⟩⟩
 case round =>
  obtain ⟨j, rfl, hj, HH⟩ := hrel
  obtain ⟨wz, rfl⟩ : ∃ z : World, z = wr := ⟨_, rfl⟩
  have q2 : wz.cell? ⟨q, 3, none⟩ = some (.slice pa L.length ca) := by rw [(HB.out.keeps HH.out.1).cell]; rfl
  have hw : IntKind.i64.wrap ((j : Int) + 1) = (j : Int) + 1 := IntWalk.i64_in _ (by omega)
  by_cases hlt : j < L.length
  ·have hcl : ∃ bs o, pa = some ⟨bs, o, none⟩ ∧ wz.cell? ⟨bs, o + j * 2, none⟩ = some (.string (bstr L[j].1.name)) := by
    rcases ((HR.out.keeps HK.out).keeps HH.out.1).al.2 with ⟨a0, cap, hv, h0, -⟩ | ⟨b, off, cap, hv, -, -, hc⟩
    ·omega
    ·simp only [Value.slice.injEq] at hv
     exact ⟨b, off, hv.1, hc (j * 2 + 0) _ (by rw [al_at hlt (show 0 < 2 by decide)]; rfl)⟩
   obtain ⟨bs, o, rfl, hcell⟩ := hcl
   obtain ⟨hj', hje⟩ := HAT.out j hlt
   have HJE := Lib.hid hje
   generalize L[j].1.name = X at *
   obtain ⟨bq, hbq⟩ : ∃ z, decide (X = name) = z := ⟨_, rfl⟩
   have HBQ := Lib.hid hbq
   have hte : ((bstr X).toList == (bstr name).toList) = bq := by rw [bstr_toList, bstr_toList, ← hbq, Bool.eq_iff_iff]; simp
   clear hje hbq
   cases bq with
   |true =>
    have HP := Lib.hid (posL_at hj' (HJE.out.trans (of_decide_eq_true HBQ.out)) (fun k hk => HH.out.2 k hk _))
    go_wp2_with fail
    go_ret
    exact ⟨by rw [HP.out]; rfl, HK.out.trans HH.out.1⟩
   |false =>
    have HX := Lib.hid (show ∀ k (hk : k < j + 1) (hk' : k < (namesA t).length), (namesA t)[k] ≠ name from fun k hk hk' => by
     by_cases e : k = j
     ·subst e; rw [HJE.out]; exact of_decide_eq_false HBQ.out
     ·exact HH.out.2 k (by omega) hk')
    go_wp2_with fail
    go_roundw
    case rel => exact ⟨j + 1, by simp, by omega, Lib.hid ⟨HH.out.1, HX.out⟩⟩
    case measure =>
     simp only [RowKit.intOf]
     omega
  ·have HP := Lib.hid (posL_none (l := namesA t) (name := name) (fun hm => by
    obtain ⟨k, hk, e⟩ := List.getElem_of_mem hm
    exact HH.out.2 k (by have := HNL.out; omega) hk e))
   have hd : decide ((j : Int) < (L.length : Int)) = false := decide_eq_false (by omega)
   go_wp2_with fail
   go_ret
   exact ⟨by rw [HP.out]; rfl, HK.out.trans HH.out.1⟩
end Usr
end Go.Proofs.YtklbemkafdccgaaGreat

/- ref13: SameAliases of one list laid twice. -/
namespace Go.Proofs.YtklbemkafdccgaaGreat
open Go.RowKit
namespace Usr
open Adr (Str)
open Mp Go.Maps
/-- a slice of aliases to be read, each with its targets -/
structure AlsR (w : World) (v : Value) (L : List (AlP × Value)) : Prop where
 row : RowS w 2 v L.length (L.flatMap alC)
 pay : ∀ x ∈ L, Row w x.2 (x.1.tos.map strV)
theorem AlsR.keeps {w w' : World} {v : Value} {L : List (AlP × Value)} (h : AlsR w v L) (k : Keeps w w') : AlsR w' v L := ⟨h.row.keeps k, fun x hx => (h.pay x hx).keeps k⟩
theorem AlsR.one {w : World} {p : Option Addr} {c : Nat} {L : List (AlP × Value)} (h : AlsR w (.slice p L.length c) L) {j : Nat} (hlt : j < L.length) : ∃ b o pa ca, p = some ⟨b, o, none⟩ ∧ w.cell? ⟨b, o + j * 2, none⟩ = some (.string (bstr L[j].1.name)) ∧ w.cell? ⟨b, o + j * 2 + 1, none⟩ = some (.slice pa L[j].1.tos.length ca) ∧ Row w (.slice pa L[j].1.tos.length ca) (L[j].1.tos.map strV) := by
 obtain ⟨pa, ca, hv2, -, -⟩ := (h.pay _ (List.getElem_mem hlt)).form
 rw [List.length_map] at hv2
 rcases h.row.2 with ⟨a0, cap, hv, h0, -⟩ | ⟨b, off, cap, hv, -, -, hc⟩
 ·omega
 ·simp only [Value.slice.injEq] at hv
  exact ⟨b, off, pa, ca, hv.1, hc (j * 2 + 0) _ (by rw [al_at hlt (show 0 < 2 by decide)]; rfl), hc (j * 2 + 1) _ (by rw [al_at hlt (show 1 < 2 by decide), ← hv2]; rfl), by rw [← hv2]; exact h.pay _ (List.getElem_mem hlt)⟩
theorem row_str {w : World} {p : Option Addr} {n c : Nat} {T : List Str} (h : Row w (.slice p n c) (T.map strV)) {k : Nat} (hk : k < T.length) : ∃ b o, p = some ⟨b, o, none⟩ ∧ w.cell? ⟨b, o + k, none⟩ = some (.string (bstr T[k])) := by
 rcases h with ⟨a0, cap, h1, h2, -, -⟩ | ⟨b, off, cap, h1, h2, h3, h4⟩
 ·have := congrArg List.length h2; rw [List.length_map, List.length_nil] at this; omega
 ·simp only [Value.slice.injEq] at h1
  exact ⟨b, off, h1.1, h4 k _ (by simp [hk, strV])⟩
end Usr
end Go.Proofs.YtklbemkafdccgaaGreat

/- ref13, plain: the place of a name, and what the acts do at it. -/
namespace Go.Proofs.YtklbemkafdccgaaGreat
namespace Usr
open Adr (Str)
theorem posL_cases (l : List Str) (name : Str) : (name ∉ l ∧ posL l name = -1) ∨ ∃ (i : Nat) (h : i < l.length), l[i] = name ∧ posL l name = i := by
 by_cases h : name ∈ l
 ·right
  cases hf : l.findIdx? (fun x => decide (x = name)) with
  |none =>
   have := List.findIdx?_eq_none_iff.1 hf name h
   simp at this
  |some i =>
   obtain ⟨hi, h1, -⟩ := List.findIdx?_eq_some_iff_getElem.1 hf
   refine ⟨i, hi, by simpa using h1, ?_⟩
   unfold posL
   rw [hf]
   rfl
 ·exact .inl ⟨h, posL_none h⟩
theorem drop_at {α : Type} {f : α → Str} : ∀ {l : List α} (_ : (l.map f).Nodup) {i : Nat} (hi : i < l.length), l.filter (fun x => decide (f x ≠ f l[i])) = l.take i ++ l.drop (i + 1)
 | [], _, i, hi => by simp at hi
 |a :: l, nd, 0, _ => by
  rw [List.map_cons, List.nodup_cons] at nd
  simp only [List.getElem_cons_zero, List.filter_cons, ne_eq, not_true_eq_false, decide_false, Bool.false_eq_true, if_false, List.take_zero, List.nil_append, List.drop_succ_cons, List.drop_zero]
  rw [List.filter_eq_self]
  intro x hx
  simp only [decide_eq_true_eq]
  exact fun e => nd.1 (List.mem_map.2 ⟨x, hx, e⟩)
 |a :: l, nd, i + 1, hi => by
  rw [List.map_cons, List.nodup_cons] at nd
  have hi' : i < l.length := by simpa using hi
  simp only [List.getElem_cons_succ, List.filter_cons, List.take_succ_cons, List.drop_succ_cons, List.cons_append]
  rw [if_pos (by
   simp only [decide_eq_true_eq]
   exact fun e => nd.1 (List.mem_map.2 ⟨l[i], List.getElem_mem hi', e.symm⟩)), drop_at nd.2 hi']
theorem dropA_at {t : TabP} (h : Right t) {i : Nat} (hi : i < t.al.length) : dropA t t.al[i].name = ({ t with al := t.al.take i ++ t.al.drop (i + 1) }, 0, 0) := by
 unfold dropA
 rw [if_neg (fun hx => hx (List.mem_map.2 ⟨_, List.getElem_mem hi, rfl⟩)), drop_at h.na hi]
theorem dropU_at {t : TabP} (h : Right t) {i : Nat} (hi : i < t.us.length) : dropU t t.us[i].name = ({ t with us := t.us.take i ++ t.us.drop (i + 1) }, t.us[i].n, 0) := by
 unfold dropU
 have hf : t.us.find? (fun u => decide (u.name = t.us[i].name)) = some t.us[i] := by
  cases hq : t.us.find? (fun u => decide (u.name = t.us[i].name)) with
  |none => have := List.find?_eq_none.1 hq _ (List.getElem_mem hi); simp at this
  |some x =>
   have h1 := List.mem_of_find?_eq_some hq
   have h2 := List.find?_some hq
   simp only [decide_eq_true_eq] at h2
   rw [name_inj h.nu h1 (List.getElem_mem hi) h2]
 rw [hf]
 simp only
 rw [drop_at h.nu hi]
end Usr
end Go.Proofs.YtklbemkafdccgaaGreat

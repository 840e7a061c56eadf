/- Several texts in one: UsRefPos, UsSame, UsSameA. -/
import Derived.Test.YtpndpooddehbbaaGreatK33
import Derived.Test.YtpndpooddehbbaaGreatK39
/- ref13: a table by value; the place of a user's name, of an alias's. -/
namespace Go.Proofs.YtpndpooddehbbaaGreat
open Go.RowKit
namespace Usr
open Adr (Str)
open Mp Go.Maps
theorem us_at {l : List UsrP} {i : Nat} (h : i < l.length) {j : Nat} (hj : j < 4) : (l.flatMap usC)[i * 4 + j]? = (usC l[i])[j]? := flat_get usC_len l i j _ (List.getElem?_eq_getElem h) hj
/-- a reference table's slices -/
structure RTab (w : World) (uv av : Value) (t : TabP) (L : List (AlP × Value)) : Prop where
 us : RowS w 4 uv t.us.length (t.us.flatMap usC)
 al : RowS w 2 av L.length (L.flatMap alC)
 alm : L.map (·.1) = t.al
 pay : ∀ x ∈ L, Row w x.2 (x.1.tos.map strV)
theorem RTab.keeps {w w' : World} {uv av : Value} {t : TabP} {L : List (AlP × Value)} (h : RTab w uv av t L) (k : Keeps w w') : RTab w' uv av t L :=
 ⟨h.us.keeps k, h.al.keeps k, h.alm, fun x hx => (h.pay x hx).keeps k⟩
def rtV (uv av : Value) (t : TabP) : Value := .agg #[.string (bstr t.dom), .int .i64 t.next, uv, av]
/-- the place of a name; -1: it isn't there -/
def posL (l : List Str) (name : Str) : Int := ((l.findIdx? fun x => decide (x = name)).map fun i => (i : Int)).getD (-1)
end Usr
end Go.Proofs.YtpndpooddehbbaaGreat

/- ref13: SameUsers of one list laid twice. -/
namespace Go.Proofs.YtpndpooddehbbaaGreat
open Go.RowKit
namespace Usr
open Adr (Str)
open Mp Go.Maps
end Usr
end Go.Proofs.YtpndpooddehbbaaGreat

/- ref13: SameAliases of one list laid twice. -/
namespace Go.Proofs.YtpndpooddehbbaaGreat
open Go.RowKit
namespace Usr
open Adr (Str)
open Mp Go.Maps
/-- a slice of aliases to be read, each with its targets -/
structure AlsR (w : World) (v : Value) (L : List (AlP × Value)) : Prop where
 row : RowS w 2 v L.length (L.flatMap alC)
 pay : ∀ x ∈ L, Row w x.2 (x.1.tos.map strV)
theorem AlsR.keeps {w w' : World} {v : Value} {L : List (AlP × Value)} (h : AlsR w v L) (k : Keeps w w') : AlsR w' v L := ⟨h.row.keeps k, fun x hx => (h.pay x hx).keeps k⟩
theorem AlsR.one {w : World} {p : Option Addr} {c : Nat} {L : List (AlP × Value)} (h : AlsR w (.slice p L.length c) L) {j : Nat} (hlt : j < L.length) : ∃ b o pa ca, p = some ⟨b, o, none⟩ ∧ w.cell? ⟨b, o + j * 2, none⟩ = some (.string (bstr L[j].1.name)) ∧ w.cell? ⟨b, o + j * 2 + 1, none⟩ = some (.slice pa L[j].1.tos.length ca) ∧ Row w (.slice pa L[j].1.tos.length ca) (L[j].1.tos.map strV) := by
 obtain ⟨pa, ca, hv2, -, -⟩ := (h.pay _ (List.getElem_mem hlt)).form
 rw [List.length_map] at hv2
 rcases h.row.2 with ⟨a0, cap, hv, h0, -⟩ | ⟨b, off, cap, hv, -, -, hc⟩
 ·omega
 ·simp only [Value.slice.injEq] at hv
  exact ⟨b, off, pa, ca, hv.1, hc (j * 2 + 0) _ (by rw [al_at hlt (show 0 < 2 by decide)]; rfl), hc (j * 2 + 1) _ (by rw [al_at hlt (show 1 < 2 by decide), ← hv2]; rfl), by rw [← hv2]; exact h.pay _ (List.getElem_mem hlt)⟩
theorem row_str {w : World} {p : Option Addr} {n c : Nat} {T : List Str} (h : Row w (.slice p n c) (T.map strV)) {k : Nat} (hk : k < T.length) : ∃ b o, p = some ⟨b, o, none⟩ ∧ w.cell? ⟨b, o + k, none⟩ = some (.string (bstr T[k])) := by
 rcases h with ⟨a0, cap, h1, h2, -, -⟩ | ⟨b, off, cap, h1, h2, h3, h4⟩
 ·have := congrArg List.length h2; rw [List.length_map, List.length_nil] at this; omega
 ·simp only [Value.slice.injEq] at h1
  exact ⟨b, off, h1.1, h4 k _ (by simp [hk, strV])⟩
end Usr
end Go.Proofs.YtpndpooddehbbaaGreat

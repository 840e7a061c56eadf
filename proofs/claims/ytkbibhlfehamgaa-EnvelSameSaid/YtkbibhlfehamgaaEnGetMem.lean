/- envel.Read's variables in memory. -/
import Derived.Test.YtkbibhlfehamgaaK19
import Derived.Test.YtkbibhlfehamgaaK24
import Derived.Test.YtkbibhlfehamgaaK17
import Derived.Laws.OwnMore
namespace Go.Proofs.Ytkbibhlfehamgaa
open Go.RowKit
namespace Env
open Adr (Str)
open Frm (ownsRow_keeps ownsRow_mods ownsRow_ne ownsRow_form ownsRow_ty rowS_lit Fr1 frC)
open Txl (FrmsR frM)
abbrev jobD (id arr : Int) (fl fd : Str) (vt vs vb : Value) : Array Value := #[.int .i64 id, .int .i64 arr, .string (bstr fl), .string (bstr fd), vt, vs, vb]
structure RdSt (w wr : World) (J base : Nat) (id arr : Int) (fl fd : Str) (vt : Value) (T : List TgP) (vs : Value) (S : List StP) (vb : Value) (body : Str) (fv : Value) (F : List (Fr1 × Value)) : Prop where
 job : Blk wr J 29 (jobD id arr fl fd vt vs vb)
 tos : wr.ownsRow w.heap.size 47 3 vt T.length (T.flatMap tgC)
 sts : wr.ownsRow w.heap.size 44 4 vs S.length (S.flatMap stC)
 fr : FrmsR wr base fv F
 bd : Piece wr base 5 vb (body.map u8v)
 keeps : Keeps w wr
 jw : w.heap.size ≤ J
theorem stok : ElemOkS Try.prog 27 44 4 32 := elemOkS (z := .agg #[.int .i64 0, .int .i64 0, .int .i64 0, .int .i64 0]) Try.underlying27 (by kernel_rfl) rfl
theorem blk_ty {w : World} {g : Nat} {t : TypeId} {cs : Array Value} (h : Blk w g t cs) {e : TypeId} (hne : t ≠ e) : ∀ ds fr, w.heap[g]? ≠ some (.cells ds e fr) := fun ds fr hh => by
 unfold Blk at h
 rw [h] at hh
 simp only [Option.some.injEq, Obj.cells.injEq] at hh
 exact hne hh.2.1
section
variable {w wr wr' : World} {J base : Nat} {id arr : Int} {fl fd : Str} {vt vs vb fv : Value} {T : List TgP} {S : List StP} {body : Str} {F : List (Fr1 × Value)}
theorem RdSt.kept (h : RdSt w wr J base id arr fl fd vt T vs S vb body fv F) (k : Keeps wr wr') : RdSt w wr' J base id arr fl fd vt T vs S vb body fv F :=
 ⟨h.job.keeps k, ownsRow_keeps h.tos k, ownsRow_keeps h.sts k, h.fr.keeps k, h.bd.keeps k, h.keeps.trans k, h.jw⟩
/-- the job's variable is written: other bytes -/
theorem RdSt.writeB (h : RdSt w wr J base id arr fl fd vt T vs S vb body fv F) {pv : Value} {m : Str} (hp : Piece wr base 5 pv (m.map u8v)) : RdSt w (wr.setCell ⟨J, 6, none⟩ pv) J base id arr fl fd vt T vs S pv m fv F := by
 have k : Mods (· = J) wr (wr.setCell ⟨J, 6, none⟩ pv) := (Mods.refl (· = J) wr).setCell (p := ⟨J, 6, none⟩) (fun _ => rfl) pv
 exact ⟨h.job.set_ 6 pv, ownsRow_mods h.tos k (fun x hx e => ownsRow_ne h.tos h.job (by decide) (by rw [hx, e])), ownsRow_mods h.sts k (fun x hx e => ownsRow_ne h.sts h.job (by decide) (by rw [hx, e])),
  h.fr.modsT k (fun x hx => by subst hx; exact blk_ty h.job (by decide)) (fun x hx => by subst hx; exact blk_ty h.job (by decide)), hp.modsT k (fun x hx => by subst hx; exact blk_ty h.job (by decide)), k.keeps h.keeps (fun x hx => by rw [hx]; exact h.jw), h.jw⟩
/-- behind an append of a state, with its store -/
theorem RdSt.grown (h : RdSt w wr J base id arr fl fd vt T vs S vb body fv F) {vs' : Value} {x : StP} {wa : World} (k : Keeps wr wa) (hg : wa.grownBy wr' vs.ownBlock) (ho : wr'.ownsRow w.heap.size 44 4 vs' (S.length + 1) (S.flatMap stC ++ stC x)) :
  RdSt w (wr'.setCell ⟨J, 5, none⟩ vs') J base id arr fl fd vt T vs' (S ++ [x]) vb body fv F := by
 have h1 := h.kept k
 have hM : Mods (fun x => vs.ownBlock = some x) wa wr' := (Mods.refl _ wa).grown hg (fun k hk _ => hk)
 have hnJ : vs.ownBlock ≠ some J := ownsRow_ne h1.sts h1.job (by decide)
 have hJ1 := h1.job.mods hM hnJ
 have hnJ' : vs'.ownBlock ≠ some J := ownsRow_ne ho hJ1 (by decide)
 have hM2 : Mods (· = J) wr' (wr'.setCell ⟨J, 5, none⟩ vs') := (Mods.refl (· = J) wr').setCell (p := ⟨J, 5, none⟩) (fun _ => rfl) vs'
 have hK1 : Keeps w wr' := hM.keeps h1.keeps (fun x hx => Frm.ownsRow_base h1.sts x hx)
 have hty : ∀ x, vs.ownBlock = some x → ∀ (e : TypeId), 44 ≠ e → ∀ ds fr, wa.heap[x]? ≠ some (.cells ds e fr) := fun x hx e hne => ownsRow_ty h1.sts hne x hx
 have ht1 : wr'.ownsRow w.heap.size 47 3 vt T.length (T.flatMap tgC) := ownsRow_mods h1.tos hM (fun x hx hs => by
  rcases h1.tos.2 with ⟨rfl, _⟩ | ⟨g, cap, cur, rfl, hb, hgg, _⟩
  ·simp [Value.ownBlock] at hx
  ·simp [Value.ownBlock] at hx
   subst hx
   exact hty _ hs 47 (by decide) _ _ hgg)
 have hf1 := h1.fr.modsT hM (fun x hx => hty x hx _ (by decide)) (fun x hx => hty x hx _ (by decide))
 have hb1 := h1.bd.modsT hM (fun x hx => hty x hx _ (by decide))
 refine ⟨hJ1.set_ 5 vs', ownsRow_mods ht1 hM2 (fun x hx e => ownsRow_ne ht1 hJ1 (by decide) (by rw [hx, e])), ?_,
  hf1.modsT hM2 (fun x hx => by subst hx; exact blk_ty hJ1 (by decide)) (fun x hx => by subst hx; exact blk_ty hJ1 (by decide)), hb1.modsT hM2 (fun x hx => by subst hx; exact blk_ty hJ1 (by decide)), hM2.keeps hK1 (fun x hx => by rw [hx]; exact h.jw), h.jw⟩
 have := ownsRow_mods ho hM2 (fun x hx e => hnJ' (by rw [hx, e]))
 simpa using this
theorem flat_set4 (S : List StP) (k : Nat) (hk : k < S.length) (s t d c : Int) : ((((S.flatMap stC).set (k * 4) (.int .i64 s)).set (k * 4 + 1) (.int .i64 t)).set (k * 4 + 2) (.int .i64 d)).set (k * 4 + 3) (.int .i64 c) = (S.set k ⟨s, t, d, c⟩).flatMap stC := by
 have hl : (S.flatMap stC).length = S.length * 4 := flat_len stC_len S
 apply List.ext_getElem?
 intro i
 by_cases hi : i < S.length * 4
 ·obtain ⟨q, r, rfl, hr⟩ : ∃ q r, i = q * 4 + r ∧ r < 4 := ⟨i / 4, i % 4, by omega, by omega⟩
  have hq : q < S.length := by omega
  by_cases hqk : q = k
  ·subst hqk
   rw [flat_get stC_len (S.set q ⟨s, t, d, c⟩) q r ⟨s, t, d, c⟩ (by rw [List.getElem?_set_self hq]) hr]
   have : r = 0 ∨ r = 1 ∨ r = 2 ∨ r = 3 := by omega
   rcases this with rfl | rfl | rfl | rfl
   ·rw [List.getElem?_set_ne (by omega), List.getElem?_set_ne (by omega), List.getElem?_set_ne (by omega), Nat.add_zero, List.getElem?_set_self (by omega)]; rfl
   ·rw [List.getElem?_set_ne (by omega), List.getElem?_set_ne (by omega), List.getElem?_set_self (by simp only [List.length_set]; omega)]; rfl
   ·rw [List.getElem?_set_ne (by omega), List.getElem?_set_self (by simp only [List.length_set]; omega)]; rfl
   ·rw [List.getElem?_set_self (by simp only [List.length_set]; omega)]; rfl
  ·rw [flat_get stC_len (S.set k ⟨s, t, d, c⟩) q r S[q] (by rw [List.getElem?_set_ne (fun e => hqk e.symm), List.getElem?_eq_getElem hq]) hr]
   rw [List.getElem?_set_ne (by omega), List.getElem?_set_ne (by omega), List.getElem?_set_ne (by omega), List.getElem?_set_ne (by omega)]
   exact flat_get stC_len S q r S[q] (List.getElem?_eq_getElem hq) hr
 ·rw [List.getElem?_eq_none (by simp only [List.length_set]; omega), List.getElem?_eq_none (by rw [flat_len stC_len, List.length_set]; omega)]
/-- a state is written in its place -/
theorem RdSt.setS {sb cap : Nat} (h : RdSt w wr J base id arr fl fd vt T (.slice (some ⟨sb, 0, none⟩) S.length cap) S vb body fv F) (k : Nat) (hk : k < S.length) (s t d c : Int) :
  RdSt w ((((wr.setCell ⟨sb, k * 4, none⟩ (.int .i64 s)).setCell ⟨sb, k * 4 + 1, none⟩ (.int .i64 t)).setCell ⟨sb, k * 4 + 2, none⟩ (.int .i64 d)).setCell ⟨sb, k * 4 + 3, none⟩ (.int .i64 c)) J base id arr fl fd vt T (.slice (some ⟨sb, 0, none⟩) S.length cap) (S.set k ⟨s, t, d, c⟩) vb body fv F := by
 have hM : Mods (· = sb) wr ((((wr.setCell ⟨sb, k * 4, none⟩ (.int .i64 s)).setCell ⟨sb, k * 4 + 1, none⟩ (.int .i64 t)).setCell ⟨sb, k * 4 + 2, none⟩ (.int .i64 d)).setCell ⟨sb, k * 4 + 3, none⟩ (.int .i64 c)) :=
  ((((Mods.refl (· = sb) wr).setCell (p := ⟨sb, k * 4, none⟩) (fun _ => rfl) _).setCell (p := ⟨sb, k * 4 + 1, none⟩) (fun _ => rfl) _).setCell (p := ⟨sb, k * 4 + 2, none⟩) (fun _ => rfl) _).setCell (p := ⟨sb, k * 4 + 3, none⟩) (fun _ => rfl) _
 have hob : (Value.slice (some ⟨sb, 0, none⟩) S.length cap).ownBlock = some sb := rfl
 have hty : ∀ (e : TypeId), 44 ≠ e → ∀ ds fr, wr.heap[sb]? ≠ some (.cells ds e fr) := fun e hne => ownsRow_ty h.sts hne sb hob
 have hnJ : J ≠ sb := fun e => ownsRow_ne h.sts h.job (by decide) (by rw [e]; rfl)
 refine ⟨h.job.mods hM hnJ, ownsRow_mods h.tos hM (fun x hx hs => ?_), ?_, h.fr.modsT hM (fun x hx => by subst hx; exact hty _ (by decide)) (fun x hx => by subst hx; exact hty _ (by decide)), h.bd.modsT hM (fun x hx => by subst hx; exact hty _ (by decide)), hM.keeps h.keeps (fun x hx => by subst hx; exact Frm.ownsRow_base h.sts _ hob), h.jw⟩
 ·subst hs
  rcases h.tos.2 with ⟨rfl, _⟩ | ⟨g, cap, cur, rfl, hb, hgg, _⟩
  ·simp [Value.ownBlock] at hx
  ·simp [Value.ownBlock] at hx
   subst hx
   exact hty 47 (by decide) _ _ hgg
 ·have := (World.ownsRow.stored (World.ownsRow.stored (World.ownsRow.stored (World.ownsRow.stored h.sts (k * 4) (.int .i64 s)).1 (k * 4 + 1) (.int .i64 t)).1 (k * 4 + 2) (.int .i64 d)).1 (k * 4 + 3) (.int .i64 c)).1
  rw [flat_set4 S k hk] at this
  rw [List.length_set]
  exact this
theorem RdSt.setS1 {sb cap n : Nat} (h : RdSt w wr J base id arr fl fd vt T (.slice (some ⟨sb, 0, none⟩) n cap) S vb body fv F) (hn : n = S.length) (k : Nat) (hk : k < S.length) (s t d c : Int) :
  RdSt w ((((wr.setCell ⟨sb, k * 4, none⟩ (.int .i64 s)).setCell ⟨sb, k * 4 + 1, none⟩ (.int .i64 t)).setCell ⟨sb, k * 4 + 2, none⟩ (.int .i64 d)).setCell ⟨sb, k * 4 + 3, none⟩ (.int .i64 c)) J base id arr fl fd vt T (.slice (some ⟨sb, 0, none⟩) n cap) (S.set k ⟨s, t, d, c⟩) vb body fv F := by
 subst hn
 exact h.setS k hk s t d c
end
end Env
end Go.Proofs.Ytkbibhlfehamgaa

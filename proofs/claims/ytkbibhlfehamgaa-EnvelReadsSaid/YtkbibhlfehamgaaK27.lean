/- Several texts in one: EnGetMem, EnRefMem, EnRefCut. -/
import Derived.Test.YtkbibhlfehamgaaK21
import Derived.Test.YtkbibhlfehamgaaK26
import Derived.Test.YtkbibhlfehamgaaK20
import Derived.Laws.OwnMore
import Derived.Test.YtkbibhlfehamgaaK19
import Derived.Test.YtkbibhlfehamgaaK06
/- envel.Read's variables in memory. -/
namespace Go.Proofs.Ytkbibhlfehamgaa
open Go.RowKit
namespace Env
open Adr (Str)
open Frm (ownsRow_keeps ownsRow_mods ownsRow_ne ownsRow_form ownsRow_ty rowS_lit Fr1 frC)
open Txl (FrmsR frM)
abbrev jobD (id arr : Int) (fl fd : Str) (vt vs vb : Value) : Array Value := #[.int .i64 id, .int .i64 arr, .string (bstr fl), .string (bstr fd), vt, vs, vb]
structure RdSt (w wr : World) (J base : Nat) (id arr : Int) (fl fd : Str) (vt : Value) (T : List TgP) (vs : Value) (S : List StP) (vb : Value) (body : Str) (fv : Value) (F : List (Fr1 × Value)) : Prop where
 job : Blk wr J 29 (jobD id arr fl fd vt vs vb)
 tos : wr.ownsRow w.heap.size 47 3 vt T.length (T.flatMap tgC)
 sts : wr.ownsRow w.heap.size 44 4 vs S.length (S.flatMap stC)
 fr : FrmsR wr base fv F
 bd : Piece wr base 5 vb (body.map u8v)
 keeps : Keeps w wr
 jw : w.heap.size ≤ J
theorem stok : ElemOkS Try.prog 27 44 4 32 := elemOkS (z := .agg #[.int .i64 0, .int .i64 0, .int .i64 0, .int .i64 0]) Try.underlying27 (by kernel_rfl) rfl
theorem blk_ty {w : World} {g : Nat} {t : TypeId} {cs : Array Value} (h : Blk w g t cs) {e : TypeId} (hne : t ≠ e) : ∀ ds fr, w.heap[g]? ≠ some (.cells ds e fr) := fun ds fr hh => by
 unfold Blk at h
 rw [h] at hh
 simp only [Option.some.injEq, Obj.cells.injEq] at hh
 exact hne hh.2.1
section
variable {w wr wr' : World} {J base : Nat} {id arr : Int} {fl fd : Str} {vt vs vb fv : Value} {T : List TgP} {S : List StP} {body : Str} {F : List (Fr1 × Value)}
theorem RdSt.kept (h : RdSt w wr J base id arr fl fd vt T vs S vb body fv F) (k : Keeps wr wr') : RdSt w wr' J base id arr fl fd vt T vs S vb body fv F :=
 ⟨h.job.keeps k, ownsRow_keeps h.tos k, ownsRow_keeps h.sts k, h.fr.keeps k, h.bd.keeps k, h.keeps.trans k, h.jw⟩
/-- the job's variable is written: other bytes -/
theorem RdSt.writeB (h : RdSt w wr J base id arr fl fd vt T vs S vb body fv F) {pv : Value} {m : Str} (hp : Piece wr base 5 pv (m.map u8v)) : RdSt w (wr.setCell ⟨J, 6, none⟩ pv) J base id arr fl fd vt T vs S pv m fv F := by
 have k : Mods (· = J) wr (wr.setCell ⟨J, 6, none⟩ pv) := (Mods.refl (· = J) wr).setCell (p := ⟨J, 6, none⟩) (fun _ => rfl) pv
 exact ⟨h.job.set_ 6 pv, ownsRow_mods h.tos k (fun x hx e => ownsRow_ne h.tos h.job (by decide) (by rw [hx, e])), ownsRow_mods h.sts k (fun x hx e => ownsRow_ne h.sts h.job (by decide) (by rw [hx, e])),
  h.fr.modsT k (fun x hx => by subst hx; exact blk_ty h.job (by decide)) (fun x hx => by subst hx; exact blk_ty h.job (by decide)), hp.modsT k (fun x hx => by subst hx; exact blk_ty h.job (by decide)), k.keeps h.keeps (fun x hx => by rw [hx]; exact h.jw), h.jw⟩
/-- behind an append of a state, with its store -/
theorem RdSt.grown (h : RdSt w wr J base id arr fl fd vt T vs S vb body fv F) {vs' : Value} {x : StP} {wa : World} (k : Keeps wr wa) (hg : wa.grownBy wr' vs.ownBlock) (ho : wr'.ownsRow w.heap.size 44 4 vs' (S.length + 1) (S.flatMap stC ++ stC x)) :
  RdSt w (wr'.setCell ⟨J, 5, none⟩ vs') J base id arr fl fd vt T vs' (S ++ [x]) vb body fv F := by
 have h1 := h.kept k
 have hM : Mods (fun x => vs.ownBlock = some x) wa wr' := (Mods.refl _ wa).grown hg (fun k hk _ => hk)
 have hnJ : vs.ownBlock ≠ some J := ownsRow_ne h1.sts h1.job (by decide)
 have hJ1 := h1.job.mods hM hnJ
 have hnJ' : vs'.ownBlock ≠ some J := ownsRow_ne ho hJ1 (by decide)
 have hM2 : Mods (· = J) wr' (wr'.setCell ⟨J, 5, none⟩ vs') := (Mods.refl (· = J) wr').setCell (p := ⟨J, 5, none⟩) (fun _ => rfl) vs'
 have hK1 : Keeps w wr' := hM.keeps h1.keeps (fun x hx => Frm.ownsRow_base h1.sts x hx)
 have hty : ∀ x, vs.ownBlock = some x → ∀ (e : TypeId), 44 ≠ e → ∀ ds fr, wa.heap[x]? ≠ some (.cells ds e fr) := fun x hx e hne => ownsRow_ty h1.sts hne x hx
 have ht1 : wr'.ownsRow w.heap.size 47 3 vt T.length (T.flatMap tgC) := ownsRow_mods h1.tos hM (fun x hx hs => by
  rcases h1.tos.2 with ⟨rfl, _⟩ | ⟨g, cap, cur, rfl, hb, hgg, _⟩
  ·simp [Value.ownBlock] at hx
  ·simp [Value.ownBlock] at hx
   subst hx
   exact hty _ hs 47 (by decide) _ _ hgg)
 have hf1 := h1.fr.modsT hM (fun x hx => hty x hx _ (by decide)) (fun x hx => hty x hx _ (by decide))
 have hb1 := h1.bd.modsT hM (fun x hx => hty x hx _ (by decide))
 refine ⟨hJ1.set_ 5 vs', ownsRow_mods ht1 hM2 (fun x hx e => ownsRow_ne ht1 hJ1 (by decide) (by rw [hx, e])), ?_,
  hf1.modsT hM2 (fun x hx => by subst hx; exact blk_ty hJ1 (by decide)) (fun x hx => by subst hx; exact blk_ty hJ1 (by decide)), hb1.modsT hM2 (fun x hx => by subst hx; exact blk_ty hJ1 (by decide)), hM2.keeps hK1 (fun x hx => by rw [hx]; exact h.jw), h.jw⟩
 have := ownsRow_mods ho hM2 (fun x hx e => hnJ' (by rw [hx, e]))
 simpa using this
theorem flat_set4 (S : List StP) (k : Nat) (hk : k < S.length) (s t d c : Int) : ((((S.flatMap stC).set (k * 4) (.int .i64 s)).set (k * 4 + 1) (.int .i64 t)).set (k * 4 + 2) (.int .i64 d)).set (k * 4 + 3) (.int .i64 c) = (S.set k ⟨s, t, d, c⟩).flatMap stC := by
 have hl : (S.flatMap stC).length = S.length * 4 := flat_len stC_len S
 apply List.ext_getElem?
 intro i
 by_cases hi : i < S.length * 4
 ·obtain ⟨q, r, rfl, hr⟩ : ∃ q r, i = q * 4 + r ∧ r < 4 := ⟨i / 4, i % 4, by omega, by omega⟩
  have hq : q < S.length := by omega
  by_cases hqk : q = k
  ·subst hqk
   rw [flat_get stC_len (S.set q ⟨s, t, d, c⟩) q r ⟨s, t, d, c⟩ (by rw [List.getElem?_set_self hq]) hr]
   have : r = 0 ∨ r = 1 ∨ r = 2 ∨ r = 3 := by omega
   rcases this with rfl | rfl | rfl | rfl
   ·rw [List.getElem?_set_ne (by omega), List.getElem?_set_ne (by omega), List.getElem?_set_ne (by omega), Nat.add_zero, List.getElem?_set_self (by omega)]; rfl
   ·rw [List.getElem?_set_ne (by omega), List.getElem?_set_ne (by omega), List.getElem?_set_self (by simp only [List.length_set]; omega)]; rfl
   ·rw [List.getElem?_set_ne (by omega), List.getElem?_set_self (by simp only [List.length_set]; omega)]; rfl
   ·rw [List.getElem?_set_self (by simp only [List.length_set]; omega)]; rfl
  ·rw [flat_get stC_len (S.set k ⟨s, t, d, c⟩) q r S[q] (by rw [List.getElem?_set_ne (fun e => hqk e.symm), List.getElem?_eq_getElem hq]) hr]
   rw [List.getElem?_set_ne (by omega), List.getElem?_set_ne (by omega), List.getElem?_set_ne (by omega), List.getElem?_set_ne (by omega)]
   exact flat_get stC_len S q r S[q] (List.getElem?_eq_getElem hq) hr
 ·rw [List.getElem?_eq_none (by simp only [List.length_set]; omega), List.getElem?_eq_none (by rw [flat_len stC_len, List.length_set]; omega)]
/-- a state is written in its place -/
theorem RdSt.setS {sb cap : Nat} (h : RdSt w wr J base id arr fl fd vt T (.slice (some ⟨sb, 0, none⟩) S.length cap) S vb body fv F) (k : Nat) (hk : k < S.length) (s t d c : Int) :
  RdSt w ((((wr.setCell ⟨sb, k * 4, none⟩ (.int .i64 s)).setCell ⟨sb, k * 4 + 1, none⟩ (.int .i64 t)).setCell ⟨sb, k * 4 + 2, none⟩ (.int .i64 d)).setCell ⟨sb, k * 4 + 3, none⟩ (.int .i64 c)) J base id arr fl fd vt T (.slice (some ⟨sb, 0, none⟩) S.length cap) (S.set k ⟨s, t, d, c⟩) vb body fv F := by
 have hM : Mods (· = sb) wr ((((wr.setCell ⟨sb, k * 4, none⟩ (.int .i64 s)).setCell ⟨sb, k * 4 + 1, none⟩ (.int .i64 t)).setCell ⟨sb, k * 4 + 2, none⟩ (.int .i64 d)).setCell ⟨sb, k * 4 + 3, none⟩ (.int .i64 c)) :=
  ((((Mods.refl (· = sb) wr).setCell (p := ⟨sb, k * 4, none⟩) (fun _ => rfl) _).setCell (p := ⟨sb, k * 4 + 1, none⟩) (fun _ => rfl) _).setCell (p := ⟨sb, k * 4 + 2, none⟩) (fun _ => rfl) _).setCell (p := ⟨sb, k * 4 + 3, none⟩) (fun _ => rfl) _
 have hob : (Value.slice (some ⟨sb, 0, none⟩) S.length cap).ownBlock = some sb := rfl
 have hty : ∀ (e : TypeId), 44 ≠ e → ∀ ds fr, wr.heap[sb]? ≠ some (.cells ds e fr) := fun e hne => ownsRow_ty h.sts hne sb hob
 have hnJ : J ≠ sb := fun e => ownsRow_ne h.sts h.job (by decide) (by rw [e]; rfl)
 refine ⟨h.job.mods hM hnJ, ownsRow_mods h.tos hM (fun x hx hs => ?_), ?_, h.fr.modsT hM (fun x hx => by subst hx; exact hty _ (by decide)) (fun x hx => by subst hx; exact hty _ (by decide)), h.bd.modsT hM (fun x hx => by subst hx; exact hty _ (by decide)), hM.keeps h.keeps (fun x hx => by subst hx; exact Frm.ownsRow_base h.sts _ hob), h.jw⟩
 ·subst hs
  rcases h.tos.2 with ⟨rfl, _⟩ | ⟨g, cap, cur, rfl, hb, hgg, _⟩
  ·simp [Value.ownBlock] at hx
  ·simp [Value.ownBlock] at hx
   subst hx
   exact hty 47 (by decide) _ _ hgg
 ·have := (World.ownsRow.stored (World.ownsRow.stored (World.ownsRow.stored (World.ownsRow.stored h.sts (k * 4) (.int .i64 s)).1 (k * 4 + 1) (.int .i64 t)).1 (k * 4 + 2) (.int .i64 d)).1 (k * 4 + 3) (.int .i64 c)).1
  rw [flat_set4 S k hk] at this
  rw [List.length_set]
  exact this
theorem RdSt.setS1 {sb cap n : Nat} (h : RdSt w wr J base id arr fl fd vt T (.slice (some ⟨sb, 0, none⟩) n cap) S vb body fv F) (hn : n = S.length) (k : Nat) (hk : k < S.length) (s t d c : Int) :
  RdSt w ((((wr.setCell ⟨sb, k * 4, none⟩ (.int .i64 s)).setCell ⟨sb, k * 4 + 1, none⟩ (.int .i64 t)).setCell ⟨sb, k * 4 + 2, none⟩ (.int .i64 d)).setCell ⟨sb, k * 4 + 3, none⟩ (.int .i64 c)) J base id arr fl fd vt T (.slice (some ⟨sb, 0, none⟩) n cap) (S.set k ⟨s, t, d, c⟩) vb body fv F := by
 subst hn
 exact h.setS k hk s t d c
end
end Env
end Go.Proofs.Ytkbibhlfehamgaa

/- ref15.Read's variables in memory. -/
namespace Go.Proofs.Ytkbibhlfehamgaa
open Go.RowKit
namespace Env
open Adr (Str)
open Frm (ownsRow_keeps ownsRow_mods ownsRow_ne ownsRow_form ownsRow_ty rowS_lit Fr1 frC)
open Txl (FrmsR frM)
def gotZ : Array Value := #[.int .i64 0, .int .i64 0, .string (bstr []), .string (bstr []), .slice none 0 0, .slice none 0 0, .slice none 0 0, .int .i64 0, .int .i64 0]
theorem gotM : Mids Try.prog 34 9 := ⟨⟨_, Try.underlying34, rfl⟩, by kernel_rfl⟩
/-- blocks of none of the types at hand -/
def Apart (w : World) (S : Nat → Prop) : Prop := ∀ x, S x → ∀ e, (e = 29 ∨ e = 47 ∨ e = 44 ∨ e = 53 ∨ e = 5 ∨ e = 34) → ∀ cs fr, w.heap[x]? ≠ some (.cells cs e fr)
theorem apart_rd {w : World} {g base : Nat} {bv : Value} {l : Str} {σ : Option Nat} (h : RrAt w g base bv l σ) : Apart w (· = g) := by
 obtain ⟨a, bad, hB, -⟩ := h
 intro x hx e he
 subst hx
 rcases he with rfl | rfl | rfl | rfl | rfl | rfl <;> exact blk_ty hB (by decide)
/-- Read's variables with the result's block -/
structure RfSt (w wr : World) (J Rb base : Nat) (id arr : Int) (fl fd : Str) (vt : Value) (T : List TgP) (vs : Value) (S : List StP) (vb : Value) (body : Str) (fv : Value) (F : List (Fr1 × Value)) : Prop where
 rd : RdSt w wr J base id arr fl fd vt T vs S vb body fv F
 res : Blk wr Rb 34 gotZ
 rw_ : w.heap.size ≤ Rb
section
variable {w wr wr' : World} {J Rb base g : Nat} {id arr : Int} {fl fd : Str} {vt vs vb fv bv : Value} {T : List TgP} {S : List StP} {body l : Str} {F : List (Fr1 × Value)} {σ : Option Nat}
theorem ownsRow_apart {e : TypeId} {C n b : Nat} {v : Value} {xs : List Value} {X : Nat → Prop} (h : wr.ownsRow b e C v n xs) (hX : ∀ x, X x → ∀ cs fr, wr.heap[x]? ≠ some (.cells cs e fr)) : ∀ x, v.ownBlock = some x → ¬ X x := by
 intro x hx hs
 rcases h.2 with ⟨rfl, _⟩ | ⟨g, cap, cur, rfl, hb, hgg, _⟩
 ·simp [Value.ownBlock] at hx
 ·simp [Value.ownBlock] at hx
  subst hx
  exact hX _ hs _ _ hgg
theorem blk_apart {t : TypeId} {cs : Array Value} {X : Nat → Prop} {b : Nat} (h : Blk wr b t cs) (hX : ∀ x, X x → ∀ cs fr, wr.heap[x]? ≠ some (.cells cs t fr)) : ¬ X b := fun hs => hX _ hs _ _ h
theorem RfSt.away {X : Nat → Prop} (h : RfSt w wr J Rb base id arr fl fd vt T vs S vb body fv F) (k : Mods X wr wr') (hw : ∀ x, X x → w.heap.size ≤ x) (ha : Apart wr X) : RfSt w wr' J Rb base id arr fl fd vt T vs S vb body fv F :=
 ⟨⟨h.rd.job.mods k (blk_apart h.rd.job (fun x hx => ha x hx _ (.inl rfl))), ownsRow_mods h.rd.tos k (ownsRow_apart h.rd.tos (fun x hx => ha x hx _ (.inr (.inl rfl)))), ownsRow_mods h.rd.sts k (ownsRow_apart h.rd.sts (fun x hx => ha x hx _ (.inr (.inr (.inl rfl))))),
  h.rd.fr.modsT k (fun x hx => ha x hx _ (.inr (.inr (.inr (.inl rfl))))) (fun x hx => ha x hx _ (.inr (.inr (.inr (.inr (.inl rfl)))))), h.rd.bd.modsT k (fun x hx => ha x hx _ (.inr (.inr (.inr (.inr (.inl rfl)))))), k.keeps h.rd.keeps hw, h.rd.jw⟩,
  h.res.mods k (blk_apart h.res (fun x hx => ha x hx _ (.inr (.inr (.inr (.inr (.inr rfl))))))), h.rw_⟩
theorem RfSt.kept (h : RfSt w wr J Rb base id arr fl fd vt T vs S vb body fv F) (k : Keeps wr wr') : RfSt w wr' J Rb base id arr fl fd vt T vs S vb body fv F := ⟨h.rd.kept k, h.res.keeps k, h.rw_⟩
theorem RfSt.jr (h : RfSt w wr J Rb base id arr fl fd vt T vs S vb body fv F) : Rb ≠ J := fun e => by
 have h1 := h.res
 rw [e] at h1
 exact blk_ty h.rd.job (e := 34) (by decide) _ _ h1
/-- the job's variable is written anew -/
theorem RfSt.write (h : RfSt w wr J Rb base id arr fl fd vt T vs S vb body fv F) (k : Mods (· = J) wr wr') {id' arr' : Int} {fl' fd' : Str} (hJ : Blk wr' J 29 (jobD id' arr' fl' fd' vt vs vb)) : RfSt w wr' J Rb base id' arr' fl' fd' vt T vs S vb body fv F :=
 ⟨⟨hJ, ownsRow_mods h.rd.tos k (fun x hx e => ownsRow_ne h.rd.tos h.rd.job (by decide) (by rw [hx, e])), ownsRow_mods h.rd.sts k (fun x hx e => ownsRow_ne h.rd.sts h.rd.job (by decide) (by rw [hx, e])),
  h.rd.fr.modsT k (fun x hx => by subst hx; exact blk_ty h.rd.job (by decide)) (fun x hx => by subst hx; exact blk_ty h.rd.job (by decide)), h.rd.bd.modsT k (fun x hx => by subst hx; exact blk_ty h.rd.job (by decide)), k.keeps h.rd.keeps (fun x hx => by rw [hx]; exact h.rd.jw), h.rd.jw⟩,
  h.res.mods k h.jr, h.rw_⟩
/-- other states -/
theorem RfSt.newS (h : RfSt w wr J Rb base id arr fl fd vt T vs S vb body fv F) {vs' : Value} {S' : List StP} (hs : wr.ownsRow w.heap.size 44 4 vs' S'.length (S'.flatMap stC)) : RfSt w (wr.setCell ⟨J, 5, none⟩ vs') J Rb base id arr fl fd vt T vs' S' vb body fv F := by
 have k : Mods (· = J) wr (wr.setCell ⟨J, 5, none⟩ vs') := (Mods.refl (· = J) wr).setCell (p := ⟨J, 5, none⟩) (fun _ => rfl) vs'
 exact ⟨⟨h.rd.job.set_ 5 vs', ownsRow_mods h.rd.tos k (fun x hx e => ownsRow_ne h.rd.tos h.rd.job (by decide) (by rw [hx, e])), ownsRow_mods hs k (fun x hx e => ownsRow_ne hs h.rd.job (by decide) (by rw [hx, e])),
  h.rd.fr.modsT k (fun x hx => by subst hx; exact blk_ty h.rd.job (by decide)) (fun x hx => by subst hx; exact blk_ty h.rd.job (by decide)), h.rd.bd.modsT k (fun x hx => by subst hx; exact blk_ty h.rd.job (by decide)), k.keeps h.rd.keeps (fun x hx => by rw [hx]; exact h.rd.jw), h.rd.jw⟩,
  h.res.mods k h.jr, h.rw_⟩
theorem RfSt.newB (h : RfSt w wr J Rb base id arr fl fd vt T vs S vb body fv F) {pv : Value} {m : Str} (hp : Piece wr base 5 pv (m.map u8v)) : RfSt w (wr.setCell ⟨J, 6, none⟩ pv) J Rb base id arr fl fd vt T vs S pv m fv F :=
 ⟨h.rd.writeB hp, h.res.far (p := ⟨J, 6, none⟩) h.jr _, h.rw_⟩
/-- behind an append of a target, with its store -/
theorem RfSt.grownT (h : RfSt w wr J Rb base id arr fl fd vt T vs S vb body fv F) {vt' : Value} {t : TgP} {wa : World} (k : Keeps wr wa) (hg : wa.grownBy wr' vt.ownBlock) (ho : wr'.ownsRow w.heap.size 47 3 vt' (T.length + 1) (T.flatMap tgC ++ tgC t)) :
  RfSt w (wr'.setCell ⟨J, 4, none⟩ vt') J Rb base id arr fl fd vt' (T ++ [t]) vs S vb body fv F := by
 have h1 := h.kept k
 have hM : Mods (fun x => vt.ownBlock = some x) wa wr' := (Mods.refl _ wa).grown hg (fun k hk _ => hk)
 have hty : ∀ x, vt.ownBlock = some x → ∀ (e : TypeId), 47 ≠ e → ∀ ds fr, wa.heap[x]? ≠ some (.cells ds e fr) := fun x hx e hne => ownsRow_ty h1.rd.tos hne x hx
 have hnJ : vt.ownBlock ≠ some J := ownsRow_ne h1.rd.tos h1.rd.job (by decide)
 have hJ1 := h1.rd.job.mods hM hnJ
 have hnJ' : vt'.ownBlock ≠ some J := ownsRow_ne ho hJ1 (by decide)
 have hM2 : Mods (· = J) wr' (wr'.setCell ⟨J, 4, none⟩ vt') := (Mods.refl (· = J) wr').setCell (p := ⟨J, 4, none⟩) (fun _ => rfl) vt'
 have hK1 : Keeps w wr' := hM.keeps h1.rd.keeps (fun x hx => Frm.ownsRow_base h1.rd.tos x hx)
 have hs1 : wr'.ownsRow w.heap.size 44 4 vs S.length (S.flatMap stC) := ownsRow_mods h1.rd.sts hM (ownsRow_apart h1.rd.sts (fun x hx => hty x hx _ (by decide)))
 have hf1 := h1.rd.fr.modsT hM (fun x hx => hty x hx _ (by decide)) (fun x hx => hty x hx _ (by decide))
 have hb1 := h1.rd.bd.modsT hM (fun x hx => hty x hx _ (by decide))
 have hr1 := h1.res.mods hM (blk_apart h1.res (fun x hx => hty x hx _ (by decide)))
 refine ⟨⟨hJ1.set_ 4 vt', ?_, ownsRow_mods hs1 hM2 (fun x hx e => ownsRow_ne hs1 hJ1 (by decide) (by rw [hx, e])), hf1.modsT hM2 (fun x hx => by subst hx; exact blk_ty hJ1 (by decide)) (fun x hx => by subst hx; exact blk_ty hJ1 (by decide)), hb1.modsT hM2 (fun x hx => by subst hx; exact blk_ty hJ1 (by decide)), hM2.keeps hK1 (fun x hx => by rw [hx]; exact h.rd.jw), h.rd.jw⟩, hr1.mods hM2 h.jr, h.rw_⟩
 have := ownsRow_mods ho hM2 (fun x hx e => hnJ' (by rw [hx, e]))
 simpa using this
/-- behind an append of a state, with its store -/
theorem RfSt.grownS (h : RfSt w wr J Rb base id arr fl fd vt T vs S vb body fv F) {vs' : Value} {x : StP} {wa : World} (k : Keeps wr wa) (hg : wa.grownBy wr' vs.ownBlock) (ho : wr'.ownsRow w.heap.size 44 4 vs' (S.length + 1) (S.flatMap stC ++ stC x)) :
  RfSt w (wr'.setCell ⟨J, 5, none⟩ vs') J Rb base id arr fl fd vt T vs' (S ++ [x]) vb body fv F := by
 have h1 := h.kept k
 have hM : Mods (fun x => vs.ownBlock = some x) wa wr' := (Mods.refl _ wa).grown hg (fun k hk _ => hk)
 exact ⟨h.rd.grown k hg ho, (h1.res.mods hM (blk_apart h1.res (fun x hx => ownsRow_ty h1.rd.sts (by decide) x hx))).far (p := ⟨J, 5, none⟩) h.jr _, h.rw_⟩
end
end Env
end Go.Proofs.Ytkbibhlfehamgaa

/- ref15.Read: a state is set by three appends: what is apart, the parts of the states. -/
namespace Go.Proofs.Ytkbibhlfehamgaa
open Go.RowKit
namespace Env
open Adr (Str)
open Frm (ownsRow_keeps ownsRow_mods ownsRow_ne ownsRow_form ownsRow_ty rowS_lit Fr1 frC)
open Txl (FrmsR frM)
section
variable {w wr wr' : World} {J Rb base g : Nat} {id arr : Int} {fl fd : Str} {vt vs vb fv bv : Value} {T : List TgP} {S : List StP} {body l : Str} {F : List (Fr1 × Value)}
/-- blocks of states, none of them the job's -/
theorem RfSt.awayS {X : Nat → Prop} (h : RfSt w wr J Rb base id arr fl fd vt T vs S vb body fv F) (k : Mods X wr wr') (hw : ∀ x, X x → w.heap.size ≤ x) (ha : ∀ x, X x → ∀ e, 44 ≠ e → ∀ cs fr, wr.heap[x]? ≠ some (.cells cs e fr)) (hs : ∀ x, vs.ownBlock = some x → ¬ X x) : RfSt w wr' J Rb base id arr fl fd vt T vs S vb body fv F :=
 ⟨⟨h.rd.job.mods k (blk_apart h.rd.job (fun x hx => ha x hx _ (by decide))), ownsRow_mods h.rd.tos k (ownsRow_apart h.rd.tos (fun x hx => ha x hx _ (by decide))), ownsRow_mods h.rd.sts k hs,
  h.rd.fr.modsT k (fun x hx => ha x hx _ (by decide)) (fun x hx => ha x hx _ (by decide)), h.rd.bd.modsT k (fun x hx => ha x hx _ (by decide)), k.keeps h.rd.keeps hw, h.rd.jw⟩,
  h.res.mods k (blk_apart h.res (fun x hx => ha x hx _ (by decide))), h.rw_⟩
/-- an append to a slice of states of its own, whose block is none of the job's -/
theorem RfSt.grownO (h : RfSt w wr J Rb base id arr fl fd vt T vs S vb body fv F) {v : Value} {n : Nat} {xs : List Value} (hg : wr.grownBy wr' v.ownBlock) (ho : wr.ownsRow w.heap.size 44 4 v n xs) (hne : ∀ x, v.ownBlock = some x → vs.ownBlock ≠ some x) : RfSt w wr' J Rb base id arr fl fd vt T vs S vb body fv F :=
 h.awayS ((Mods.refl (fun x => v.ownBlock = some x) wr).grown hg (fun k hk _ => hk)) (fun x hx => Frm.ownsRow_base ho x hx) (fun x hx e hne' => ownsRow_ty ho hne' x hx) (fun x hx hv => hne x hv hx)
theorem sts_lt {B n C : Nat} {v : Value} {e : TypeId} {xs : List Value} {W : World} (h : W.ownsRow B e C v n xs) : ∀ x, v.ownBlock = some x → x < W.heap.size := by
 intro x hx
 rcases h.2 with ⟨rfl, _⟩ | ⟨g, cap, cur, rfl, hb, hgg, _⟩
 ·simp [Value.ownBlock] at hx
 ·simp [Value.ownBlock] at hx
  subst hx
  exact (Array.getElem?_eq_some_iff.1 hgg).1
end
/-- the parts of the states on both sides of one -/
theorem sts_parts (qs : Option Addr) (n ks va : Nat) (S : List StP) (hS : S.length = n) (hv : va < n) (hk : n ≤ ks) : ∃ pA pB,
  (∀ w', (Instr.slice 27 (.slice qs n ks) none (some (.int .i64 (va : Int))) none).run Try.prog w' = .ok (.slice pA va ks) w') ∧
  (∀ w', (Instr.slice 27 (.slice qs n ks) (some (.int .i64 ((va : Int) + 1))) none none).run Try.prog w' = .ok (.slice pB (n - (va + 1)) (ks - (va + 1))) w') ∧
  ∀ w', RowS w' 4 (.slice qs n ks) n (S.flatMap stC) → RowS w' 4 (.slice pA va ks) va ((S.take va).flatMap stC) ∧ RowS w' 4 (.slice pB (n - (va + 1)) (ks - (va + 1))) (n - (va + 1)) ((S.drop (va + 1)).flatMap stC) := by
 subst hS
 obtain ⟨pA, hA⟩ := cutS_sl 4 qs 0 va ks
 obtain ⟨pB, hB⟩ := cutS_sl 4 qs (va + 1) S.length ks
 rw [Nat.sub_zero, Nat.sub_zero] at hA
 refine ⟨pA, pB, fun w' => ?_, fun w' => ?_, fun w' h => ⟨?_, ?_⟩⟩
 ·rw [← hA]
  exact run_cutS_h w' Try.underlying27 (by intro w; kernel_rfl) qs S.length ks va (by omega)
 ·rw [← hB, show ((va : Int) + 1) = ((va + 1 : Nat) : Int) from by omega]
  exact run_cutS_l w' Try.underlying27 (by intro w; kernel_rfl) qs S.length ks (va + 1) (by omega)
 ·have := h.part stC_len (lo := 0) (hi := va) (Nat.zero_le _) (by omega)
  rwa [hA, Nat.sub_zero, List.drop_zero] at this
 ·have := h.part stC_len (lo := va + 1) (hi := S.length) (by omega) (Nat.le_refl _)
  rwa [hB, List.take_of_length_le (by rw [List.length_drop]; exact Nat.le_refl _)] at this
theorem set_parts (S : List StP) (va : Nat) (x : StP) (h : va < S.length) : (S.take va).flatMap stC ++ stC x ++ (S.drop (va + 1)).flatMap stC = (S.set va x).flatMap stC := by
 rw [List.set_eq_take_append_cons_drop, if_pos h, List.flatMap_append, List.flatMap_cons, List.append_assoc]
theorem oneCell_sts (S : List StP) : ∀ u ∈ S.flatMap stC, u.oneCell' = true := by
 intro u hu
 obtain ⟨x, -, hx⟩ := List.mem_flatMap.1 hu
 simp only [stC, List.mem_cons, List.not_mem_nil, or_false] at hx
 rcases hx with rfl | rfl | rfl | rfl <;> rfl
end Env
end Go.Proofs.Ytkbibhlfehamgaa

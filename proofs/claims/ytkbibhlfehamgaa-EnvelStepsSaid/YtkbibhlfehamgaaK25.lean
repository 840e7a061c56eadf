/- Several texts in one: EnGetMem, EnStepsMem, EnStepsInv, EnRefMem, EnRefCut. -/
import Derived.Test.YtkbibhlfehamgaaK19
import Derived.Test.YtkbibhlfehamgaaK24
import Derived.Test.YtkbibhlfehamgaaK17
import Derived.Laws.OwnMore
import Derived.Test.YtkbibhlfehamgaaK07
import Derived.Test.YtkbibhlfehamgaaK18
import Derived.Test.YtkbibhlfehamgaaK06
/- envel.Read's variables in memory. -/
namespace Go.Proofs.Ytkbibhlfehamgaa
open Go.RowKit
namespace Env
open Adr (Str)
open Frm (ownsRow_keeps ownsRow_mods ownsRow_ne ownsRow_form ownsRow_ty rowS_lit Fr1 frC)
open Txl (FrmsR frM)
abbrev jobD (id arr : Int) (fl fd : Str) (vt vs vb : Value) : Array Value := #[.int .i64 id, .int .i64 arr, .string (bstr fl), .string (bstr fd), vt, vs, vb]
structure RdSt (w wr : World) (J base : Nat) (id arr : Int) (fl fd : Str) (vt : Value) (T : List TgP) (vs : Value) (S : List StP) (vb : Value) (body : Str) (fv : Value) (F : List (Fr1 × Value)) : Prop where
 job : Blk wr J 29 (jobD id arr fl fd vt vs vb)
 tos : wr.ownsRow w.heap.size 47 3 vt T.length (T.flatMap tgC)
 sts : wr.ownsRow w.heap.size 44 4 vs S.length (S.flatMap stC)
 fr : FrmsR wr base fv F
 bd : Piece wr base 5 vb (body.map u8v)
 keeps : Keeps w wr
 jw : w.heap.size ≤ J
theorem stok : ElemOkS Try.prog 27 44 4 32 := elemOkS (z := .agg #[.int .i64 0, .int .i64 0, .int .i64 0, .int .i64 0]) Try.underlying27 (by kernel_rfl) rfl
theorem blk_ty {w : World} {g : Nat} {t : TypeId} {cs : Array Value} (h : Blk w g t cs) {e : TypeId} (hne : t ≠ e) : ∀ ds fr, w.heap[g]? ≠ some (.cells ds e fr) := fun ds fr hh => by
 unfold Blk at h
 rw [h] at hh
 simp only [Option.some.injEq, Obj.cells.injEq] at hh
 exact hne hh.2.1
section
variable {w wr wr' : World} {J base : Nat} {id arr : Int} {fl fd : Str} {vt vs vb fv : Value} {T : List TgP} {S : List StP} {body : Str} {F : List (Fr1 × Value)}
theorem RdSt.kept (h : RdSt w wr J base id arr fl fd vt T vs S vb body fv F) (k : Keeps wr wr') : RdSt w wr' J base id arr fl fd vt T vs S vb body fv F :=
 ⟨h.job.keeps k, ownsRow_keeps h.tos k, ownsRow_keeps h.sts k, h.fr.keeps k, h.bd.keeps k, h.keeps.trans k, h.jw⟩
/-- the job's variable is written: other bytes -/
theorem RdSt.writeB (h : RdSt w wr J base id arr fl fd vt T vs S vb body fv F) {pv : Value} {m : Str} (hp : Piece wr base 5 pv (m.map u8v)) : RdSt w (wr.setCell ⟨J, 6, none⟩ pv) J base id arr fl fd vt T vs S pv m fv F := by
 have k : Mods (· = J) wr (wr.setCell ⟨J, 6, none⟩ pv) := (Mods.refl (· = J) wr).setCell (p := ⟨J, 6, none⟩) (fun _ => rfl) pv
 exact ⟨h.job.set_ 6 pv, ownsRow_mods h.tos k (fun x hx e => ownsRow_ne h.tos h.job (by decide) (by rw [hx, e])), ownsRow_mods h.sts k (fun x hx e => ownsRow_ne h.sts h.job (by decide) (by rw [hx, e])),
  h.fr.modsT k (fun x hx => by subst hx; exact blk_ty h.job (by decide)) (fun x hx => by subst hx; exact blk_ty h.job (by decide)), hp.modsT k (fun x hx => by subst hx; exact blk_ty h.job (by decide)), k.keeps h.keeps (fun x hx => by rw [hx]; exact h.jw), h.jw⟩
/-- behind an append of a state, with its store -/
theorem RdSt.grown (h : RdSt w wr J base id arr fl fd vt T vs S vb body fv F) {vs' : Value} {x : StP} {wa : World} (k : Keeps wr wa) (hg : wa.grownBy wr' vs.ownBlock) (ho : wr'.ownsRow w.heap.size 44 4 vs' (S.length + 1) (S.flatMap stC ++ stC x)) :
  RdSt w (wr'.setCell ⟨J, 5, none⟩ vs') J base id arr fl fd vt T vs' (S ++ [x]) vb body fv F := by
 have h1 := h.kept k
 have hM : Mods (fun x => vs.ownBlock = some x) wa wr' := (Mods.refl _ wa).grown hg (fun k hk _ => hk)
 have hnJ : vs.ownBlock ≠ some J := ownsRow_ne h1.sts h1.job (by decide)
 have hJ1 := h1.job.mods hM hnJ
 have hnJ' : vs'.ownBlock ≠ some J := ownsRow_ne ho hJ1 (by decide)
 have hM2 : Mods (· = J) wr' (wr'.setCell ⟨J, 5, none⟩ vs') := (Mods.refl (· = J) wr').setCell (p := ⟨J, 5, none⟩) (fun _ => rfl) vs'
 have hK1 : Keeps w wr' := hM.keeps h1.keeps (fun x hx => Frm.ownsRow_base h1.sts x hx)
 have hty : ∀ x, vs.ownBlock = some x → ∀ (e : TypeId), 44 ≠ e → ∀ ds fr, wa.heap[x]? ≠ some (.cells ds e fr) := fun x hx e hne => ownsRow_ty h1.sts hne x hx
 have ht1 : wr'.ownsRow w.heap.size 47 3 vt T.length (T.flatMap tgC) := ownsRow_mods h1.tos hM (fun x hx hs => by
  rcases h1.tos.2 with ⟨rfl, _⟩ | ⟨g, cap, cur, rfl, hb, hgg, _⟩
  ·simp [Value.ownBlock] at hx
  ·simp [Value.ownBlock] at hx
   subst hx
   exact hty _ hs 47 (by decide) _ _ hgg)
 have hf1 := h1.fr.modsT hM (fun x hx => hty x hx _ (by decide)) (fun x hx => hty x hx _ (by decide))
 have hb1 := h1.bd.modsT hM (fun x hx => hty x hx _ (by decide))
 refine ⟨hJ1.set_ 5 vs', ownsRow_mods ht1 hM2 (fun x hx e => ownsRow_ne ht1 hJ1 (by decide) (by rw [hx, e])), ?_,
  hf1.modsT hM2 (fun x hx => by subst hx; exact blk_ty hJ1 (by decide)) (fun x hx => by subst hx; exact blk_ty hJ1 (by decide)), hb1.modsT hM2 (fun x hx => by subst hx; exact blk_ty hJ1 (by decide)), hM2.keeps hK1 (fun x hx => by rw [hx]; exact h.jw), h.jw⟩
 have := ownsRow_mods ho hM2 (fun x hx e => hnJ' (by rw [hx, e]))
 simpa using this
theorem flat_set4 (S : List StP) (k : Nat) (hk : k < S.length) (s t d c : Int) : ((((S.flatMap stC).set (k * 4) (.int .i64 s)).set (k * 4 + 1) (.int .i64 t)).set (k * 4 + 2) (.int .i64 d)).set (k * 4 + 3) (.int .i64 c) = (S.set k ⟨s, t, d, c⟩).flatMap stC := by
 have hl : (S.flatMap stC).length = S.length * 4 := flat_len stC_len S
 apply List.ext_getElem?
 intro i
 by_cases hi : i < S.length * 4
 ·obtain ⟨q, r, rfl, hr⟩ : ∃ q r, i = q * 4 + r ∧ r < 4 := ⟨i / 4, i % 4, by omega, by omega⟩
  have hq : q < S.length := by omega
  by_cases hqk : q = k
  ·subst hqk
   rw [flat_get stC_len (S.set q ⟨s, t, d, c⟩) q r ⟨s, t, d, c⟩ (by rw [List.getElem?_set_self hq]) hr]
   have : r = 0 ∨ r = 1 ∨ r = 2 ∨ r = 3 := by omega
   rcases this with rfl | rfl | rfl | rfl
   ·rw [List.getElem?_set_ne (by omega), List.getElem?_set_ne (by omega), List.getElem?_set_ne (by omega), Nat.add_zero, List.getElem?_set_self (by omega)]; rfl
   ·rw [List.getElem?_set_ne (by omega), List.getElem?_set_ne (by omega), List.getElem?_set_self (by simp only [List.length_set]; omega)]; rfl
   ·rw [List.getElem?_set_ne (by omega), List.getElem?_set_self (by simp only [List.length_set]; omega)]; rfl
   ·rw [List.getElem?_set_self (by simp only [List.length_set]; omega)]; rfl
  ·rw [flat_get stC_len (S.set k ⟨s, t, d, c⟩) q r S[q] (by rw [List.getElem?_set_ne (fun e => hqk e.symm), List.getElem?_eq_getElem hq]) hr]
   rw [List.getElem?_set_ne (by omega), List.getElem?_set_ne (by omega), List.getElem?_set_ne (by omega), List.getElem?_set_ne (by omega)]
   exact flat_get stC_len S q r S[q] (List.getElem?_eq_getElem hq) hr
 ·rw [List.getElem?_eq_none (by simp only [List.length_set]; omega), List.getElem?_eq_none (by rw [flat_len stC_len, List.length_set]; omega)]
/-- a state is written in its place -/
theorem RdSt.setS {sb cap : Nat} (h : RdSt w wr J base id arr fl fd vt T (.slice (some ⟨sb, 0, none⟩) S.length cap) S vb body fv F) (k : Nat) (hk : k < S.length) (s t d c : Int) :
  RdSt w ((((wr.setCell ⟨sb, k * 4, none⟩ (.int .i64 s)).setCell ⟨sb, k * 4 + 1, none⟩ (.int .i64 t)).setCell ⟨sb, k * 4 + 2, none⟩ (.int .i64 d)).setCell ⟨sb, k * 4 + 3, none⟩ (.int .i64 c)) J base id arr fl fd vt T (.slice (some ⟨sb, 0, none⟩) S.length cap) (S.set k ⟨s, t, d, c⟩) vb body fv F := by
 have hM : Mods (· = sb) wr ((((wr.setCell ⟨sb, k * 4, none⟩ (.int .i64 s)).setCell ⟨sb, k * 4 + 1, none⟩ (.int .i64 t)).setCell ⟨sb, k * 4 + 2, none⟩ (.int .i64 d)).setCell ⟨sb, k * 4 + 3, none⟩ (.int .i64 c)) :=
  ((((Mods.refl (· = sb) wr).setCell (p := ⟨sb, k * 4, none⟩) (fun _ => rfl) _).setCell (p := ⟨sb, k * 4 + 1, none⟩) (fun _ => rfl) _).setCell (p := ⟨sb, k * 4 + 2, none⟩) (fun _ => rfl) _).setCell (p := ⟨sb, k * 4 + 3, none⟩) (fun _ => rfl) _
 have hob : (Value.slice (some ⟨sb, 0, none⟩) S.length cap).ownBlock = some sb := rfl
 have hty : ∀ (e : TypeId), 44 ≠ e → ∀ ds fr, wr.heap[sb]? ≠ some (.cells ds e fr) := fun e hne => ownsRow_ty h.sts hne sb hob
 have hnJ : J ≠ sb := fun e => ownsRow_ne h.sts h.job (by decide) (by rw [e]; rfl)
 refine ⟨h.job.mods hM hnJ, ownsRow_mods h.tos hM (fun x hx hs => ?_), ?_, h.fr.modsT hM (fun x hx => by subst hx; exact hty _ (by decide)) (fun x hx => by subst hx; exact hty _ (by decide)), h.bd.modsT hM (fun x hx => by subst hx; exact hty _ (by decide)), hM.keeps h.keeps (fun x hx => by subst hx; exact Frm.ownsRow_base h.sts _ hob), h.jw⟩
 ·subst hs
  rcases h.tos.2 with ⟨rfl, _⟩ | ⟨g, cap, cur, rfl, hb, hgg, _⟩
  ·simp [Value.ownBlock] at hx
  ·simp [Value.ownBlock] at hx
   subst hx
   exact hty 47 (by decide) _ _ hgg
 ·have := (World.ownsRow.stored (World.ownsRow.stored (World.ownsRow.stored (World.ownsRow.stored h.sts (k * 4) (.int .i64 s)).1 (k * 4 + 1) (.int .i64 t)).1 (k * 4 + 2) (.int .i64 d)).1 (k * 4 + 3) (.int .i64 c)).1
  rw [flat_set4 S k hk] at this
  rw [List.length_set]
  exact this
theorem RdSt.setS1 {sb cap n : Nat} (h : RdSt w wr J base id arr fl fd vt T (.slice (some ⟨sb, 0, none⟩) n cap) S vb body fv F) (hn : n = S.length) (k : Nat) (hk : k < S.length) (s t d c : Int) :
  RdSt w ((((wr.setCell ⟨sb, k * 4, none⟩ (.int .i64 s)).setCell ⟨sb, k * 4 + 1, none⟩ (.int .i64 t)).setCell ⟨sb, k * 4 + 2, none⟩ (.int .i64 d)).setCell ⟨sb, k * 4 + 3, none⟩ (.int .i64 c)) J base id arr fl fd vt T (.slice (some ⟨sb, 0, none⟩) n cap) (S.set k ⟨s, t, d, c⟩) vb body fv F := by
 subst hn
 exact h.setS k hk s t d c
end
end Env
end Go.Proofs.Ytkbibhlfehamgaa

/- EnvelSteps' variables in memory; lengths. -/
namespace Go.Proofs.Ytkbibhlfehamgaa
open Go.RowKit
namespace Env
open Adr (Str)
open Oct (be_length)
open Frm (ownsRow_keeps ownsRow_mods ownsRow_ne ownsRow_form ownsRow_ty wrapL wrapE cat whole veil_len body_len)
structure StpSt (W wr : World) (g base : Nat) (j : JobP) (vt vs vb ov : Value) (O : Str) (wv : Value) (S : List StP) : Prop where
 job : Blk wr g 29 (jobA j vt vs vb)
 all : Own wr base 5 ov (O.map u8v)
 want : wr.ownsRow base 44 4 wv S.length (S.flatMap stC)
 keeps : Keeps W wr
 gw : W.heap.size ≤ g
 bw : W.heap.size ≤ base
 bl : base ≤ wr.heap.size
section
variable {W wr wr' : World} {g base : Nat} {j : JobP} {vt vs vb ov wv : Value} {O : Str} {S : List StP}
theorem StpSt.kept (h : StpSt W wr g base j vt vs vb ov O wv S) (k : Keeps wr wr') : StpSt W wr' g base j vt vs vb ov O wv S :=
 ⟨h.job.keeps k, h.all.keeps k, ownsRow_keeps h.want k, h.keeps.trans k, h.gw, h.bw, Nat.le_trans h.bl k.size⟩
theorem ownB_ty {w : World} {base : Nat} {v : Value} {l : List Value} {e : TypeId} (h : Own w base e v l) {e' : TypeId} (hne : e ≠ e') : ∀ x, v.ownBlock = some x → ∀ cs fr, w.heap[x]? ≠ some (.cells cs e' fr) := fun x hx => ownsRow_ty h hne x hx
theorem StpSt.grownA (h : StpSt W wr g base j vt vs vb ov O wv S) {ov' : Value} {O' : Str} (hg : wr.grownBy wr' ov.ownBlock) (ho : Own wr' base 5 ov' (O'.map u8v)) : StpSt W wr' g base j vt vs vb ov' O' wv S := by
 have hM : Mods (fun x => ov.ownBlock = some x) wr wr' := (Mods.refl _ wr).grown hg (fun k hk _ => hk)
 have hty : ∀ x, ov.ownBlock = some x → ∀ (e : TypeId), 5 ≠ e → ∀ ds fr, wr.heap[x]? ≠ some (.cells ds e fr) := fun x hx e hne => ownB_ty h.all hne x hx
 refine ⟨h.job.mods hM (fun hx => hty _ hx _ (by decide) _ _ h.job), ho, ownsRow_mods h.want hM (fun x hx hs => ?_), hM.keeps h.keeps (fun x hx => Nat.le_trans h.bw (h.all.base x hx)), h.gw, h.bw, Nat.le_trans h.bl hM.size⟩
 rcases h.want.2 with ⟨rfl, _⟩ | ⟨g, cap, cur, rfl, hb, hgg, _⟩
 ·simp [Value.ownBlock] at hx
 ·simp [Value.ownBlock] at hx
  subst hx
  exact hty _ hs 44 (by decide) _ _ hgg
theorem StpSt.setS {sb cap : Nat} (h : StpSt W wr g base j vt vs vb ov O (.slice (some ⟨sb, 0, none⟩) S.length cap) S) (k : Nat) (hk : k < S.length) (s t d c : Int) :
  StpSt W ((((wr.setCell ⟨sb, k * 4, none⟩ (.int .i64 s)).setCell ⟨sb, k * 4 + 1, none⟩ (.int .i64 t)).setCell ⟨sb, k * 4 + 2, none⟩ (.int .i64 d)).setCell ⟨sb, k * 4 + 3, none⟩ (.int .i64 c)) g base j vt vs vb ov O (.slice (some ⟨sb, 0, none⟩) S.length cap) (S.set k ⟨s, t, d, c⟩) := by
 have hM : Mods (· = sb) wr ((((wr.setCell ⟨sb, k * 4, none⟩ (.int .i64 s)).setCell ⟨sb, k * 4 + 1, none⟩ (.int .i64 t)).setCell ⟨sb, k * 4 + 2, none⟩ (.int .i64 d)).setCell ⟨sb, k * 4 + 3, none⟩ (.int .i64 c)) :=
  ((((Mods.refl (· = sb) wr).setCell (p := ⟨sb, k * 4, none⟩) (fun _ => rfl) _).setCell (p := ⟨sb, k * 4 + 1, none⟩) (fun _ => rfl) _).setCell (p := ⟨sb, k * 4 + 2, none⟩) (fun _ => rfl) _).setCell (p := ⟨sb, k * 4 + 3, none⟩) (fun _ => rfl) _
 have hob : (Value.slice (some ⟨sb, 0, none⟩) S.length cap).ownBlock = some sb := rfl
 have hty : ∀ (e : TypeId), 44 ≠ e → ∀ ds fr, wr.heap[sb]? ≠ some (.cells ds e fr) := fun e hne => ownsRow_ty h.want hne sb hob
 refine ⟨h.job.mods hM (fun e => ownsRow_ne h.want h.job (by decide) (by rw [e]; rfl)), ?_, ?_, hM.keeps h.keeps (fun x hx => by subst hx; exact Nat.le_trans h.bw (Frm.ownsRow_base h.want _ hob)), h.gw, h.bw, Nat.le_trans h.bl hM.size⟩
 ·refine ownsRow_mods h.all hM (fun x hx hs => ?_)
  subst hs
  have h6 := h.all
  rcases h6.2 with ⟨rfl, _⟩ | ⟨g', cap', cur, rfl, hb, hgg, _⟩
  ·simp [Value.ownBlock] at hx
  ·simp [Value.ownBlock] at hx
   subst hx
   exact hty 5 (by decide) _ _ hgg
 ·have := (World.ownsRow.stored (World.ownsRow.stored (World.ownsRow.stored (World.ownsRow.stored h.want (k * 4) (.int .i64 s)).1 (k * 4 + 1) (.int .i64 t)).1 (k * 4 + 2) (.int .i64 d)).1 (k * 4 + 3) (.int .i64 c)).1
  rw [flat_set4 S k hk] at this
  rw [List.length_set]
  exact this
theorem StpSt.setS1 {sb cap n : Nat} (h : StpSt W wr g base j vt vs vb ov O (.slice (some ⟨sb, 0, none⟩) n cap) S) (hn : n = S.length) (k : Nat) (hk : k < S.length) (s t d c : Int) :
  StpSt W ((((wr.setCell ⟨sb, k * 4, none⟩ (.int .i64 s)).setCell ⟨sb, k * 4 + 1, none⟩ (.int .i64 t)).setCell ⟨sb, k * 4 + 2, none⟩ (.int .i64 d)).setCell ⟨sb, k * 4 + 3, none⟩ (.int .i64 c)) g base j vt vs vb ov O (.slice (some ⟨sb, 0, none⟩) n cap) (S.set k ⟨s, t, d, c⟩) := by
 subst hn
 exact h.setS k hk s t d c
/-- the block of a slice of states that is not empty -/
theorem want_blk {w : World} {n : Nat} {p : Option Addr} {c base : Nat} (h : w.ownsRow base 44 4 (.slice p n c) S.length (S.flatMap stC)) (hn : 0 < S.length) : ∃ sb cur, p = some ⟨sb, 0, none⟩ ∧ n = S.length ∧ Blk w sb 44 cur ∧ S.length * 4 ≤ cur.size := by
 rcases h.2 with ⟨h, h0⟩ | ⟨g, cap, cur, h, hb, hgg, h1, h2, h3, h4⟩
 ·omega
 ·simp only [Value.slice.injEq] at h
  obtain ⟨rfl, rfl, rfl⟩ := h
  refine ⟨g, cur, rfl, rfl, hgg, ?_⟩
  rw [h3]
  exact Nat.mul_le_mul_right 4 h1
end
/-- a cell that holds a slice is turned: rows of other values stay -/
theorem RowS.set_slice {w : World} {C n : Nat} {v : Value} {l : List Value} (h : RowS w C v n l) {p : Addr} {q : Option Addr} {m c : Nat} (hp : w.cell? p = some (.slice q m c)) (hl : ∀ x ∈ l, ∀ a b d, x ≠ .slice a b d) (u : Value) : RowS (w.setCell p u) C v n l := by
 refine ⟨h.1, ?_⟩
 rcases h.2 with h | ⟨b, off, cap, hv, h1, h2, h3⟩
 ·exact .inl h
 ·refine .inr ⟨b, off, cap, hv, h1, h2, fun i x hx => ?_⟩
  have h4 := h3 i x hx
  rw [World.cell?_setCell_other]
  ·exact h4
  ·intro e
   rw [← e, hp] at h4
   simp only [Option.some.injEq] at h4
   exact hl x (List.mem_of_getElem? hx) _ _ _ h4.symm
theorem JobAt.set_slice {w : World} {j : JobP} {vt vs vb : Value} (h : JobAt w j vt vs vb) {p : Addr} {q : Option Addr} {m c : Nat} (hp : w.cell? p = some (.slice q m c)) (u : Value) : JobAt (w.setCell p u) j vt vs vb := by
 refine ⟨RowS.set_slice h.tos hp ?_ u, RowS.set_slice h.st hp ?_ u, (RowS.set_slice h.body.s hp ?_ u).row⟩
 ·intro x hx a b d e
  obtain ⟨y, -, hy⟩ := List.mem_flatMap.1 hx
  subst e
  simp [tgC] at hy
 ·intro x hx a b d e
  obtain ⟨y, -, hy⟩ := List.mem_flatMap.1 hx
  subst e
  simp [stC] at hy
 ·intro x hx a b d e
  obtain ⟨y, -, hy⟩ := List.mem_map.1 hx
  subst e
  simp [u8v] at hy
theorem wrap_le (k : Int) (p : Str) : (wrapL k p).length ≤ 2 * p.length + 19 := by
 unfold wrapL
 split
 ·have := (veil_len (Frm.body k.toNat p)).2
  rw [body_len] at this
  rw [List.length_cons]
  omega
 ·simp
theorem cat_mk (M : List PS) : (cat (M.map mkF)).length ≤ M.length * 47 := by
 induction M with
 | nil => simp [cat]
 | cons p M ih =>
  rw [List.map_cons, Frm.cat_cons, List.length_append, List.length_cons, Nat.succ_mul]
  have h : (wrapL ((mkF p).1 : Int) (mkF p).2).length ≤ 47 := by
   have := wrap_le ((mkF p).1) (mkF p).2
   have e : (mkF p).2.length = 14 := stepP_14 _ _
   omega
  omega
theorem stsP_len (arr : Int) : ∀ (st : List StP) (i : Nat), (stsP arr i st).length ≤ st.length
 | [], _ => Nat.zero_le _
 | x :: r, i => by
  have := stsP_len arr r (i + 1)
  unfold stsP
  rw [List.length_append, List.length_cons]
  split <;> simp <;> omega
theorem fz_len {j : JobP} (h : GoodN j) (M : List PS) : (cat (fz j M)).length ≤ 200000 + M.length * 47 := by
 unfold fz bfr
 rw [Frm.cat_append, Frm.cat_cons, Frm.cat_cons, List.length_append, List.length_append, List.length_append]
 have h1 := cat_mk M
 have h2 := cat_mk (stsP j.arr 0 j.st)
 have h3 := stsP_len j.arr j.st 0
 have h4 := wrap_le (16 : Nat) (envL j)
 have h5 := wrap_le (17 : Nat) j.body
 have h6 := (envR_env h.env).2.2
 have h7 := h.body
 have h8 := h.len
 have h9 := h.n20
 have h10 : (stsP j.arr 0 j.st).length * 47 ≤ 20 * 47 := Nat.mul_le_mul_right _ (by omega)
 simp only at h4 h5 ⊢
 omega
theorem fz_snoc (j : JobP) (M : List PS) (p : PS) : cat (fz j (M ++ [p])) = cat (fz j M) ++ wrapL 18 (stepP p.1 p.2) ∧ fz j (M ++ [p]) = fz j M ++ [mkF p] := by
 have e : fz j (M ++ [p]) = fz j M ++ [mkF p] := by unfold fz; simp
 refine ⟨?_, e⟩
 rw [e, Frm.cat_append]
 simp [cat, mkF]
theorem fz_nil (j : JobP) : fz j [] = bfr j := by unfold fz; simp
/-- the states that are wanted behind one more step -/
theorem want_next {j : JobP} {M : List PS} {p : PS} {c : Nat} (hc : (cat (bfr j)).length ≤ c) (S : List StP) :
  app ((M ++ [p]).take (whole (fz j (M ++ [p])) c - (bfr j).length)) S = if (cat (fz j (M ++ [p]))).length ≤ c then (app (M.take (whole (fz j M) c - (bfr j).length)) S).set p.1 p.2 else app (M.take (whole (fz j M) c - (bfr j).length)) S := by
 obtain ⟨e1, e2⟩ := fz_snoc j M p
 have hl : ∀ M : List PS, (fz j M).length = (bfr j).length + M.length := by intro M; unfold fz; simp
 split
 ·rename_i h
  have h2 : (cat (fz j M)).length ≤ c := by rw [e1, List.length_append] at h; omega
  rw [whole_all _ _ h, whole_all _ _ h2, hl, hl, Nat.add_sub_cancel_left, Nat.add_sub_cancel_left, List.take_of_length_le (Nat.le_refl _), List.take_of_length_le (Nat.le_refl _), app_snoc]
 ·rename_i h
  have h3 : whole (fz j (M ++ [p])) c = whole (fz j M) c := by
   rw [e2]
   exact whole_snoc _ _ _ (by rw [e2] at h; omega)
  have h4 : whole (fz j M) c - (bfr j).length ≤ M.length := by
   have := Frm.whole_le (fz j M) c
   rw [hl] at this
   omega
  rw [h3, List.take_append_of_le_length h4]
end Env
end Go.Proofs.Ytkbibhlfehamgaa

/- EnvelSteps' loop: what holds at each round. -/
namespace Go.Proofs.Ytkbibhlfehamgaa
open Go.RowKit
namespace Env
open Adr (Str)
open Frm (ownsRow_keeps ownsRow_mods ownsRow_ne ownsRow_form wrapL cat whole)
def wantS (j : JobP) (c : Nat) (M : List PS) : List StP := app (M.take (whole (fz j M) c - (bfr j).length)) j.st
structure StpInv (W : World) (g base : Nat) (j : JobP) (vt vs vb wv : Value) (c : Nat) (M : List PS) (wr : World) (ov : Value) (n i : Nat) : Prop where
 st : StpSt W wr g base j vt vs vb ov (cat (fz j M)) wv (wantS j c M)
 hn : n = (cat (fz j M)).length
 ok : ∀ p ∈ M, PsOk j.tos.length p
 ml : M.length ≤ i
 good : goodJ j = true
 hc : (bytesL j).length ≤ c
def StpI (W : World) (g base : Nat) (j : JobP) (vt vs vb wv : Value) (c : Nat) (wr : World) (ov : Value) (n i : Nat) : Prop := ∃ M, StpInv W g base j vt vs vb wv c M wr ov n i
theorem wantS_len (j : JobP) (c : Nat) (M : List PS) : (wantS j c M).length = j.st.length := app_len _ _
section
variable {W wr wr' : World} {g base : Nat} {j : JobP} {vt vs vb ov wv : Value} {c n i : Nat}
theorem StpI.kept (h : StpI W g base j vt vs vb wv c wr ov n i) (k : Keeps wr wr') : StpI W g base j vt vs vb wv c wr' ov n i := by
 obtain ⟨M, h⟩ := h
 exact ⟨M, { h with st := h.st.kept k }⟩
theorem StpI.more (h : StpI W g base j vt vs vb wv c wr ov n i) : StpI W g base j vt vs vb wv c wr ov n (i + 1) := by
 obtain ⟨M, h⟩ := h
 exact ⟨M, { h with ml := Nat.le_succ_of_le h.ml }⟩
theorem StpI.keepsW (h : StpI W g base j vt vs vb wv c wr ov n i) : Keeps W wr := let ⟨_, h⟩ := h; h.st.keeps
theorem StpI.blk (h : StpI W g base j vt vs vb wv c wr ov n i) : Blk wr g 29 (jobA j vt vs vb) := let ⟨_, h⟩ := h; h.st.job
theorem StpI.le_n (h : StpI W g base j vt vs vb wv c wr ov n i) (hi : i ≤ 30) : n ≤ 201410 := by
 obtain ⟨M, h⟩ := h
 have h1 := fz_len (goodJ_n h.good) M
 have h2 : M.length * 47 ≤ 30 * 47 := Nat.mul_le_mul_right _ (Nat.le_trans h.ml hi)
 rw [h.hn]
 omega
theorem StpI.start (hg : goodJ j = true) (hc : (bytesL j).length ≤ c) (h : StpSt W wr g base j vt vs vb ov (bytesL j) wv j.st) : StpI W g base j vt vs vb wv c wr ov (bytesL j).length 0 := by
 refine ⟨[], ⟨?_, ?_, by simp, Nat.le_refl _, hg, hc⟩⟩
 ·rw [fz_nil, ← bytes_cat hg, show wantS j c [] = j.st from by unfold wantS; rw [List.take_nil]; rfl]
  exact h
 ·rw [fz_nil, ← bytes_cat hg]
/-- the bytes, for one more append -/
theorem StpI.bytes (h : StpI W g base j vt vs vb wv c wr ov n i) : ∃ O : Str, O.length = n ∧ Own wr base 5 ov (O.map u8v) ∧ base ≤ wr.heap.size ∧
  ∀ (k : Nat) (x : StP) (sb : Str) (wr' : World) (ov' : Value), PsOk j.tos.length (k, x) → sb = wrapL 18 (stepP k x) → wr.grownBy wr' ov.ownBlock → Own wr' base 5 ov' ((O ++ sb).map u8v) →
   Keeps W wr' ∧ (¬ n + sb.length ≤ c → StpI W g base j vt vs vb wv c wr' ov' (n + sb.length) (i + 1)) ∧
   (n + sb.length ≤ c → ∀ pw m cw, wv = .slice pw m cw → j.st.length = j.tos.length → ∃ sb' cur, pw = some ⟨sb', 0, none⟩ ∧ m = j.st.length ∧ Blk wr' sb' 44 cur ∧ k * 4 + 4 ≤ cur.size ∧
    StpI W g base j vt vs vb wv c (((((wr'.setCell ⟨sb', k * 4, none⟩ (.int .i64 x.s)).setCell ⟨sb', k * 4 + 1, none⟩ (.int .i64 x.t)).setCell ⟨sb', k * 4 + 2, none⟩ (.int .i64 x.d)).setCell ⟨sb', k * 4 + 3, none⟩ (.int .i64 x.c))).drew ov' (n + sb.length) (i + 1)) := by
 obtain ⟨M, h⟩ := h
 refine ⟨cat (fz j M), h.hn.symm, h.st.all, h.st.bl, ?_⟩
 intro k x sb wr' ov' hp hsb hgr ho
 have e1 := (fz_snoc j M (k, x)).1
 have h3 := h.st.grownA (O' := cat (fz j (M ++ [(k, x)]))) hgr (by rw [e1, ← hsb]; exact ho)
 have hn2 : n + sb.length = (cat (fz j (M ++ [(k, x)]))).length := by rw [e1, List.length_append, h.hn, hsb]
 have hok : ∀ p ∈ M ++ [(k, x)], PsOk j.tos.length p := fun p hq => by
  rcases List.mem_append.1 hq with hq | hq
  ·exact h.ok p hq
  ·simp only [List.mem_singleton] at hq
   subst hq
   exact hp
 have hml : (M ++ [(k, x)]).length ≤ i + 1 := by rw [List.length_append, List.length_singleton]; have := h.ml; omega
 have hb : (cat (bfr j)).length ≤ c := by have := h.hc; rwa [bytes_cat h.good] at this
 have hwn := want_next (p := (k, x)) (M := M) hb j.st
 refine ⟨h3.keeps, fun hc => ?_, fun hc pw m cw hwv hST => ?_⟩
 ·rw [hn2] at hc
  rw [if_neg hc] at hwn
  exact ⟨M ++ [(k, x)], ⟨by unfold wantS; rw [hwn]; exact h3, hn2, hok, hml, h.good, h.hc⟩⟩
 ·rw [hn2] at hc
  rw [if_pos hc] at hwn
  subst hwv
  have hk : k < (wantS j c M).length := by rw [wantS_len, hST]; exact hp.k
  obtain ⟨sb', cur, hpw, hm, hB, hcz⟩ := want_blk h3.want (by omega)
  subst hpw
  refine ⟨sb', cur, rfl, by rw [hm, wantS_len], hB, by omega, ?_⟩
  have h4 := (h3.setS1 hm k hk x.s x.t x.d x.c).kept ((Keeps.refl _).drew)
  refine ⟨M ++ [(k, x)], ⟨?_, hn2, hok, hml, h.good, h.hc⟩⟩
  unfold wantS
  rw [hwn]
  exact h4
/-- at the loop's end -/
theorem StpI.final {po : Option Addr} {co : Nat} (h : StpI W g base j vt vs vb wv c wr (.slice po n co) n i) : ∃ (O : Str) (SB : List StP) (us : Nat) (mn : Nat), mn = min c n ∧ O.length ≤ mn ∧ n ≤ co ∧ us ≤ mn ∧ SB.length = j.st.length ∧ Row wr (cutv po 0 mn co) (O.map u8v) ∧ readR O = ({ j with st := SB }, (us : Int), 0) ∧ wr.ownsRow base 44 4 wv SB.length (SB.flatMap stC) ∧ W.heap.size ≤ g := by
 obtain ⟨M, h⟩ := h
 obtain ⟨h1, h2⟩ := read_steps h.good h.ok h.hc
 obtain ⟨p', c', e, hco, -⟩ := h.st.all.row.formB
 simp only [Value.slice.injEq] at e
 obtain ⟨-, e2, rfl⟩ := e
 have hn := h.hn
 refine ⟨(cat (fz j M)).take c, wantS j c M, _, min c n, rfl, by rw [List.length_take]; omega, by omega, ?_, wantS_len _ _ _, ?_, h1, h.st.want, h.st.gw⟩
 ·rw [hn]; exact h2
 ·have h3 := h.st.all.row.cut (lo := 0) (hi := min c n) (Nat.zero_le _) (by rw [List.length_map]; omega)
  rw [Nat.sub_zero, List.drop_zero, ← List.map_take] at h3
  have e : (cat (fz j M)).take (min c n) = (cat (fz j M)).take c := by
   by_cases hcn : c ≤ n
   ·rw [Nat.min_eq_left hcn]
   ·rw [Nat.min_eq_right (by omega), List.take_of_length_le (by omega), List.take_of_length_le (by omega)]
  rw [e] at h3
  exact h3
end
end Env
end Go.Proofs.Ytkbibhlfehamgaa

/- ref15.Read's variables in memory. -/
namespace Go.Proofs.Ytkbibhlfehamgaa
open Go.RowKit
namespace Env
open Adr (Str)
open Frm (ownsRow_keeps ownsRow_mods ownsRow_ne ownsRow_form ownsRow_ty rowS_lit Fr1 frC)
open Txl (FrmsR frM)
def gotZ : Array Value := #[.int .i64 0, .int .i64 0, .string (bstr []), .string (bstr []), .slice none 0 0, .slice none 0 0, .slice none 0 0, .int .i64 0, .int .i64 0]
/-- blocks of none of the types at hand -/
def Apart (w : World) (S : Nat → Prop) : Prop := ∀ x, S x → ∀ e, (e = 29 ∨ e = 47 ∨ e = 44 ∨ e = 53 ∨ e = 5 ∨ e = 34) → ∀ cs fr, w.heap[x]? ≠ some (.cells cs e fr)
/-- Read's variables with the result's block -/
structure RfSt (w wr : World) (J Rb base : Nat) (id arr : Int) (fl fd : Str) (vt : Value) (T : List TgP) (vs : Value) (S : List StP) (vb : Value) (body : Str) (fv : Value) (F : List (Fr1 × Value)) : Prop where
 rd : RdSt w wr J base id arr fl fd vt T vs S vb body fv F
 res : Blk wr Rb 34 gotZ
 rw_ : w.heap.size ≤ Rb
section
variable {w wr wr' : World} {J Rb base g : Nat} {id arr : Int} {fl fd : Str} {vt vs vb fv bv : Value} {T : List TgP} {S : List StP} {body l : Str} {F : List (Fr1 × Value)} {σ : Option Nat}
theorem RfSt.kept (h : RfSt w wr J Rb base id arr fl fd vt T vs S vb body fv F) (k : Keeps wr wr') : RfSt w wr' J Rb base id arr fl fd vt T vs S vb body fv F := ⟨h.rd.kept k, h.res.keeps k, h.rw_⟩
theorem RfSt.jr (h : RfSt w wr J Rb base id arr fl fd vt T vs S vb body fv F) : Rb ≠ J := fun e => by
 have h1 := h.res
 rw [e] at h1
 exact blk_ty h.rd.job (e := 34) (by decide) _ _ h1
/-- the job's variable is written anew -/
theorem RfSt.write (h : RfSt w wr J Rb base id arr fl fd vt T vs S vb body fv F) (k : Mods (· = J) wr wr') {id' arr' : Int} {fl' fd' : Str} (hJ : Blk wr' J 29 (jobD id' arr' fl' fd' vt vs vb)) : RfSt w wr' J Rb base id' arr' fl' fd' vt T vs S vb body fv F :=
 ⟨⟨hJ, ownsRow_mods h.rd.tos k (fun x hx e => ownsRow_ne h.rd.tos h.rd.job (by decide) (by rw [hx, e])), ownsRow_mods h.rd.sts k (fun x hx e => ownsRow_ne h.rd.sts h.rd.job (by decide) (by rw [hx, e])),
  h.rd.fr.modsT k (fun x hx => by subst hx; exact blk_ty h.rd.job (by decide)) (fun x hx => by subst hx; exact blk_ty h.rd.job (by decide)), h.rd.bd.modsT k (fun x hx => by subst hx; exact blk_ty h.rd.job (by decide)), k.keeps h.rd.keeps (fun x hx => by rw [hx]; exact h.rd.jw), h.rd.jw⟩,
  h.res.mods k h.jr, h.rw_⟩
end
end Env
end Go.Proofs.Ytkbibhlfehamgaa

/- ref15.Read: a state is set by three appends: what is apart, the parts of the states. -/
namespace Go.Proofs.Ytkbibhlfehamgaa
open Go.RowKit
namespace Env
open Adr (Str)
open Frm (ownsRow_keeps ownsRow_mods ownsRow_ne ownsRow_form ownsRow_ty rowS_lit Fr1 frC)
open Txl (FrmsR frM)
section
variable {w wr wr' : World} {J Rb base g : Nat} {id arr : Int} {fl fd : Str} {vt vs vb fv bv : Value} {T : List TgP} {S : List StP} {body l : Str} {F : List (Fr1 × Value)}
theorem sts_lt {B n C : Nat} {v : Value} {e : TypeId} {xs : List Value} {W : World} (h : W.ownsRow B e C v n xs) : ∀ x, v.ownBlock = some x → x < W.heap.size := by
 intro x hx
 rcases h.2 with ⟨rfl, _⟩ | ⟨g, cap, cur, rfl, hb, hgg, _⟩
 ·simp [Value.ownBlock] at hx
 ·simp [Value.ownBlock] at hx
  subst hx
  exact (Array.getElem?_eq_some_iff.1 hgg).1
end
theorem oneCell_sts (S : List StP) : ∀ u ∈ S.flatMap stC, u.oneCell' = true := by
 intro u hu
 obtain ⟨x, -, hx⟩ := List.mem_flatMap.1 hu
 simp only [stC, List.mem_cons, List.not_mem_nil, or_false] at hx
 rcases hx with rfl | rfl | rfl | rfl <;> rfl
end Env
end Go.Proofs.Ytkbibhlfehamgaa

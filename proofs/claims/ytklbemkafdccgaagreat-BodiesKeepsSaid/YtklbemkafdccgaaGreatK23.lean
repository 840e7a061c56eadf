/- Several texts in one: UsList, UsLeadMem, UsLead. -/
import Derived.Test.YtklbemkafdccgaaGreatUsNew
import Derived.Test.YtklbemkafdccgaaGreatK21
import Derived.Test.YtklbemkafdccgaaGreatFrameRef
import Derived.Test.YtklbemkafdccgaaGreatFrameScan
import Derived.Test.YtklbemkafdccgaaGreatK00
/- users: Aliases. -/
namespace Go.Proofs.YtklbemkafdccgaaGreat
open Go.RowKit
namespace Usr
open Adr (Str)
open Mp Go.Maps
open Frm (ownsRow_keeps ownsRow_mods ownsRow_ty ownsRow_base ownsRow_form)
def alC (x : AlP × Value) : List Value := [.string (bstr x.1.name), x.2]
/-- a slice of aliases, of the call's own, each with its targets -/
structure AlsAt (w : World) (base : Nat) (v : Value) (l : List (AlP × Value)) : Prop where
 own : w.ownsRow base 108 2 v l.length (l.flatMap alC)
 pay : ∀ x ∈ l, Piece w base 9 x.2 (x.1.tos.map strV)
section
variable {w w' : World} {base : Nat} {v : Value} {l : List (AlP × Value)}
theorem AlsAt.nil (w : World) (base : Nat) : AlsAt w base (.slice none 0 0) [] := ⟨World.ownsRow_nil w base _ 2, by simp⟩
theorem AlsAt.keeps (h : AlsAt w base v l) (k : Keeps w w') : AlsAt w' base v l := ⟨ownsRow_keeps h.own k, fun x hx => (h.pay x hx).keeps k⟩
theorem AlsAt.lower {base' : Nat} (h : AlsAt w base v l) (hb : base' ≤ base) : AlsAt w base' v l := ⟨⟨h.own.1, h.own.2.imp id (fun ⟨g, cap, cur, hv, hg, r⟩ => ⟨g, cap, cur, hv, Nat.le_trans hb hg, r⟩)⟩, fun x hx => (h.pay x hx).lower hb⟩
theorem AlsAt.snoc {v' : Value} {f : AlP} {pv : Value} (h : AlsAt w base v l) (hp : Piece w base 9 pv (f.tos.map strV)) (ho : w'.ownsRow base 108 2 v' (l.length + 1) (l.flatMap alC ++ alC (f, pv))) (hg : w.grownBy w' v.ownBlock) : AlsAt w' base v' (l ++ [(f, pv)]) := by
 have hM : Mods (fun x => v.ownBlock = some x) w w' := (Mods.refl _ w).grown hg (fun k hk _ => hk)
 have hty := ownsRow_ty (e' := 9) h.own (by decide)
 refine ⟨by simpa using ho, ?_⟩
 intro x hx
 rcases List.mem_append.1 hx with hx | hx
 ·exact (h.pay x hx).modsT hM hty
 ·simp at hx
  subst hx
  exact hp.modsT hM hty
theorem AlsAt.lt (h : AlsAt w base v l) : ∀ x, v.ownBlock = some x → x < w.heap.size := by
 intro x hx
 rcases h.own.2 with ⟨rfl, _⟩ | ⟨g, cap, cur, rfl, _, hgg, _⟩
 ·simp [Value.ownBlock] at hx
 ·simp [Value.ownBlock] at hx
  subst hx
  exact (Array.getElem?_eq_some_iff.1 hgg).1
end
theorem TabAt.getA {w : World} {g b1 b2 n : Nat} {t : TabP} (h : TabAt w g b1 b2 n t) (hn : (namesA t).Nodup) {a : AlP} (ha : a ∈ t.al) (hl : a.name.length ≤ maxLen) :
  ∃ p c, (Instr.lookup 82 (.map (some b2)) (.string (bstr a.name)) false).run Tryz.prog w = .ok (.agg #[.string (bstr a.name), .slice p a.tos.length c]) w ∧ Piece w 0 9 (.slice p a.tos.length c) (a.tos.map strV) := by
 obtain ⟨D, av, h1, h2, h3, h4⟩ := h.al
 obtain ⟨v', ps', hrun', hv'⟩ := look_plain h1 strKeyed Tryz.underlying82 (zeroA_run w) (alElem_mk zeroA) (key_str hl)
 have hat := h2.at_ strKind a.name zeroA
 rw [show D.atKey (Lit.string a.name) (alD zeroA) = _ from hat] at hv'
 rw [← h3] at ha
 obtain ⟨y, hy, rfl⟩ := List.mem_map.1 ha
 have hm : (y.1.name, (⟨y.1.name, y.2⟩ : AlV)) ∈ av.map alE := List.mem_map.2 ⟨y, hy, rfl⟩
 rw [(look_some h2.nd).2 hm] at hv'
 have hp := h4 y hy
 obtain ⟨p, cap, hv, -, -⟩ := hp.form
 rw [List.length_map] at hv
 refine ⟨p, cap, ?_, by rw [← hv]; exact hp⟩
 rw [hrun', alElem_inv hv', ← hv]
 rfl
def AlsDid (W : World) (l : List AlP) (e : Ending) (w' : World) : Prop := ∃ v L, e = .returned v ∧ AlsAt w' W.heap.size v L ∧ L.map (·.1) = l ∧ Keeps W w'
end Usr
end Go.Proofs.YtklbemkafdccgaaGreat

/- users: the maps of a walk in memory. -/
namespace Go.Proofs.YtklbemkafdccgaaGreat
open Go.RowKit
namespace Usr
open Adr (Str)
open Mp Go.Maps
def intL (x : Int) : Lit := .int .i64 x
/-- counts by numbers -/
def NumAt (w : World) (b n : Nat) (L : List (Int × Int)) : Prop := ∃ D, w.ownsMap Tryz.prog 3 numElem b n D ∧ MapOf (fun x : Int => Lit.int .i64 x) numD D L
section
variable {w w' : World} {b n : Nat} {L : List (Int × Int)}
theorem key_int {x : Int} (h : (Lit.int .i64 x).wf = true) : keyOf Tryz.prog 3 (.int .i64 x) = some (.int .i64 x) := keyOf_int_mk Tryz.underlying3 h
theorem intKeyedU : Keyed Tryz.prog 3 := int_keyed Tryz.underlying3
theorem NumAt.new (w : World) : NumAt (w.alloc (.map #[] 0)) w.heap.size 0 [] := ⟨_, World.ownsMap_made w Tryz.prog 3 numElem, MapOf.new⟩
theorem NumAt.keeps (h : NumAt w b n L) (k : Keeps w w') : NumAt w' b n L := let ⟨D, h1, h2⟩ := h; ⟨D, map_keepsS h1 k, h2⟩
theorem NumAt.mods {S : Nat → Prop} (h : NumAt w b n L) (k : Mods S w w') (hn : ¬ S b) : NumAt w' b n L := let ⟨D, h1, h2⟩ := h; ⟨D, map_modsS h1 k hn, h2⟩
theorem NumAt.mono (h : NumAt w b n L) {n' : Nat} (hn : n ≤ n') : NumAt w b n' L := let ⟨D, h1, h2⟩ := h; ⟨D, h1.mono hn, h2⟩
theorem NumAt.lt (h : NumAt w b n L) : b < w.heap.size := let ⟨_, h1, _⟩ := h; h1.lt
theorem CntAt.mono {L : List (Str × Int)} (h : CntAt w b n L) {n' : Nat} (hn : n ≤ n') : CntAt w b n' L := let ⟨D, h1, h2⟩ := h; ⟨D, h1.mono hn, h2⟩
theorem NumAt.get (h : NumAt w b n L) {x : Int} (hx : (Lit.int .i64 x).wf = true) : (Instr.lookup 118 (.map (some b)) (.int .i64 x) false).run Tryz.prog w = .ok (.int .i64 ((Mp.look L x).getD 0)) w := by
 obtain ⟨D, h1, h2⟩ := h
 obtain ⟨v, ps, hrun, hv⟩ := look_plain h1 intKeyedU Tryz.underlying118 (zeroN_run w) (zd := numD 0) (zp := []) rfl (key_int hx)
 rw [show D.atKey (Lit.int .i64 x) (numD 0) = _ from h2.at_ intKind x 0] at hv
 rw [hrun, numElem_inv hv]
theorem NumAt.set_ (h : NumAt w b n L) (hn : n < 1000000) {x : Int} (hx : (Lit.int .i64 x).wf = true) (v : Int) : ∃ w', (Instr.mapUpdate 118 (.map (some b)) (.int .i64 x) (.int .i64 v)).run Tryz.prog w = .ok () w' ∧ NumAt w' b (n + 1) (Mp.putL L x v) ∧ Mods (· = b) w w' := by
 obtain ⟨D, h1, h2⟩ := h
 obtain ⟨w', hrun, ho, ht⟩ := h1.store intKeyedU Tryz.underlying118 (by unfold maxLen; omega) (val := .int .i64 v) (d := numD v) (ps := []) (key_int hx) rfl
 exact ⟨w', hrun, ⟨_, ho, h2.put intKind x v⟩, turnedS ht⟩
theorem NumAt.len (h : NumAt w b n L) (ty : TypeId) : (Builtin.len_ #[118] ty #[.map (some b)]).run Tryz.prog w = .ok (.int .i64 (L.length : Int)) w := by
 obtain ⟨D, h1, h2⟩ := h
 rw [h1.len Tryz.underlying118 ty, h2.size]
end
section
variable {κ α : Type} [DecidableEq κ]
theorem mem_putL (L : List (κ × α)) (k : κ) (v : α) (x : κ) : x ∈ (Mp.putL L k v).map (·.1) ↔ x = k ∨ x ∈ L.map (·.1) := by
 unfold Mp.putL Mp.del
 simp only [List.map_append, List.mem_append, List.map_cons, List.map_nil, List.mem_singleton, List.mem_map, List.mem_filter, decide_eq_true_eq]
 constructor
 ·rintro (⟨p, ⟨hp, -⟩, rfl⟩ | rfl)
  ·exact .inr ⟨p, hp, rfl⟩
  ·exact .inl rfl
 ·rintro (rfl | ⟨p, hp, rfl⟩)
  ·exact .inr rfl
  ·by_cases e : p.1 = k
   ·exact .inr e
   ·exact .inl ⟨p, ⟨hp, e⟩, rfl⟩
theorem mem_putL2 {L : List (κ × α)} {k : κ} {v : α} {p : κ × α} (h : p ∈ Mp.putL L k v) : p ∈ L ∨ p = (k, v) := by
 unfold Mp.putL Mp.del at h
 rcases List.mem_append.1 h with h | h
 ·exact .inl (List.mem_filter.1 h).1
 ·exact .inr (by simpa using h)
theorem look_mem {L : List (κ × α)} {k : κ} {v : α} (h : Mp.look L k = some v) : (k, v) ∈ L := by
 unfold Mp.look at h
 cases hf : L.find? (fun p => decide (p.1 = k)) with
 |none => rw [hf] at h; simp at h
 |some p =>
  rw [hf] at h
  simp only [Option.map_some, Option.some.injEq] at h
  have h1 := List.mem_of_find?_eq_some hf
  have h2 := List.find?_some hf
  simp only [decide_eq_true_eq] at h2
  obtain ⟨a, b⟩ := p
  simp only at h h2
  subst h h2
  exact h1
theorem look_putG (L : List (κ × α)) (s : κ) (v : α) : Mp.look (Mp.putL L s v) s = some v := by
 unfold Mp.putL Mp.look
 rw [List.find?_append]
 have : (Mp.del L s).find? (fun p => decide (p.1 = s)) = none := by
  rw [List.find?_eq_none]
  intro p hp
  have := (List.mem_filter.1 hp).2
  simpa using this
 rw [this]
 simp
end
/-- the maps of a walk: the names in S were met, the users of the names in T found -/
structure LdAt (w : World) (sb fb n : Nat) (t : TabP) (S T : List Str) : Prop where
 seen : ∃ L, CntAt w sb n L ∧ (∀ x, x ∈ L.map (·.1) ↔ x ∈ S) ∧ ∀ p ∈ L, 1 ≤ p.2 ∧ p.2 ≤ (n : Int)
 fnd : ∃ F, NumAt w fb n F ∧ (∀ x, x ∈ F.map (·.1) ↔ ∃ u ∈ t.us, u.n = x ∧ u.name ∈ T) ∧ ∀ p ∈ F, 1 ≤ p.2 ∧ p.2 ≤ (n : Int)
 ne : sb ≠ fb
section
variable {w w' : World} {sb fb n : Nat} {t : TabP} {S T : List Str}
theorem LdAt.keeps (h : LdAt w sb fb n t S T) (k : Keeps w w') : LdAt w' sb fb n t S T :=
 ⟨let ⟨L, a, b⟩ := h.seen; ⟨L, a.keeps k, b⟩, let ⟨L, a, b⟩ := h.fnd; ⟨L, a.keeps k, b⟩, h.ne⟩
theorem LdAt.mono (h : LdAt w sb fb n t S T) {n' : Nat} (hn : n ≤ n') : LdAt w sb fb n' t S T :=
 ⟨let ⟨L, a, b, c⟩ := h.seen; ⟨L, a.mono hn, b, fun p hp => by have := c p hp; omega⟩, let ⟨L, a, b, c⟩ := h.fnd; ⟨L, a.mono hn, b, fun p hp => by have := c p hp; omega⟩, h.ne⟩
theorem LdAt.mark (h : LdAt w sb fb n t S T) (hn : n < 1000000) {s : Str} (hs : s.length ≤ maxLen) : ∃ (v : Int) (w' : World), (0 ≤ v ∧ v ≤ n) ∧ (s ∈ S → 0 < v) ∧ (s ∉ S → v = 0) ∧
  (Instr.lookup 120 (.map (some sb)) (.string (bstr s)) false).run Tryz.prog w = .ok (.int .i64 v) w ∧
  (Instr.mapUpdate 120 (.map (some sb)) (.string (bstr s)) (.int .i64 (v + 1))).run Tryz.prog w = .ok () w' ∧
  (Instr.lookup 120 (.map (some sb)) (.string (bstr s)) false).run Tryz.prog w' = .ok (.int .i64 (v + 1)) w' ∧
  LdAt w' sb fb (n + 1) t (s :: S) T ∧ Mods (· = sb) w w' := by
 obtain ⟨L, a, b, c⟩ := h.seen
 obtain ⟨F, a', b', c'⟩ := h.fnd
 have hv : (0 ≤ (Mp.look L s).getD 0 ∧ (Mp.look L s).getD 0 ≤ (n : Int)) ∧ (s ∈ S → 0 < (Mp.look L s).getD 0) ∧ (s ∉ S → (Mp.look L s).getD 0 = 0) := by
  cases e : Mp.look L s with
  |none =>
   have hq := (look_none (l := L) (k := s)).1 e
   rw [b s] at hq
   exact ⟨⟨by simp, by simp⟩, fun hm => absurd hm hq, fun _ => rfl⟩
  |some v =>
   have hm := look_mem e
   have hb := c _ hm
   have hS : s ∈ S := (b s).1 (List.mem_map.2 ⟨_, hm, rfl⟩)
   simp only at hb
   exact ⟨⟨by simp; omega, by simp; omega⟩, fun _ => by simp; omega, fun hq => absurd hS hq⟩
 obtain ⟨w', hset, hc2, hm2⟩ := a.set_ hn hs ((Mp.look L s).getD 0 + 1)
 have hg := hc2.get hs
 rw [look_putG] at hg
 refine ⟨_, w', hv.1, hv.2.1, hv.2.2, a.get hs, hset, hg, ⟨⟨_, hc2, fun x => ?_, fun p hp => ?_⟩, ⟨F, (a'.mods hm2 (fun e => h.ne e.symm)).mono (Nat.le_succ n), b', fun p hp => by have := c' p hp; omega⟩, h.ne⟩, hm2⟩
 ·rw [mem_putL, b x, List.mem_cons]
 ·rcases mem_putL2 hp with hp | rfl
  ·have := c p hp; omega
  ·have := hv.1; simp only; omega
theorem LdAt.skip (h : LdAt w sb fb n t S T) {s : Str} (hs : s ∉ namesU t) : LdAt w sb fb n t S (s :: T) := by
 refine ⟨h.seen, ?_, h.ne⟩
 obtain ⟨F, a, b, c⟩ := h.fnd
 refine ⟨F, a, fun x => ?_, c⟩
 rw [b x]
 constructor
 ·rintro ⟨u, hu, e, hm⟩; exact ⟨u, hu, e, List.mem_cons_of_mem _ hm⟩
 ·rintro ⟨u, hu, e, hm⟩
  rcases List.mem_cons.1 hm with hm | hm
  ·exact absurd (List.mem_map.2 ⟨u, hu, hm⟩) hs
  ·exact ⟨u, hu, e, hm⟩
theorem LdAt.found (h : LdAt w sb fb n t S T) (hn : n < 1000000) {u : UsrP} (hu : u ∈ t.us) (hx : (Lit.int .i64 u.n).wf = true) (huq : ∀ x ∈ t.us, x.name = u.name → x = u) (hur : ∀ x ∈ t.us, x.n = u.n → x = u) : ∃ (v : Int) (w' : World), (0 ≤ v ∧ v ≤ n) ∧
  (Instr.lookup 118 (.map (some fb)) (.int .i64 u.n) false).run Tryz.prog w = .ok (.int .i64 v) w ∧
  (Instr.mapUpdate 118 (.map (some fb)) (.int .i64 u.n) (.int .i64 (v + 1))).run Tryz.prog w = .ok () w' ∧
  LdAt w' sb fb (n + 1) t S (u.name :: T) ∧ Mods (· = fb) w w' := by
 obtain ⟨L, a, b, c⟩ := h.seen
 obtain ⟨F, a', b', c'⟩ := h.fnd
 have hv : 0 ≤ (Mp.look F u.n).getD 0 ∧ (Mp.look F u.n).getD 0 ≤ (n : Int) := by
  cases e : Mp.look F u.n with
  |none => exact ⟨by simp, by simp⟩
  |some v =>
   have hb := c' _ (look_mem e)
   simp only at hb
   exact ⟨by simp; omega, by simp; omega⟩
 obtain ⟨w', hset, hc2, hm2⟩ := a'.set_ hn hx ((Mp.look F u.n).getD 0 + 1)
 refine ⟨_, w', hv, a'.get hx, hset, ⟨⟨L, (a.mods hm2 (fun e => h.ne e)).mono (Nat.le_succ n), b, fun p hp => by have := c p hp; omega⟩, ⟨_, hc2, fun x => ?_, fun p hp => ?_⟩, h.ne⟩, hm2⟩
 ·rw [mem_putL, b' x]
  constructor
  ·rintro (rfl | ⟨y, hy, e, hm⟩)
   ·exact ⟨u, hu, rfl, List.mem_cons_self ..⟩
   ·exact ⟨y, hy, e, List.mem_cons_of_mem _ hm⟩
  ·rintro ⟨y, hy, e, hm⟩
   rcases List.mem_cons.1 hm with hm | hm
   ·rw [huq y hy hm] at e; exact .inl e.symm
   ·exact .inr ⟨y, hy, e, hm⟩
 ·rcases mem_putL2 hp with hp | rfl
  ·have := c' p hp; omega
  ·simp only; omega
end
end Usr
end Go.Proofs.YtklbemkafdccgaaGreat

/- users: lead. -/
namespace Go.Proofs.YtklbemkafdccgaaGreat
open Go.RowKit
namespace Usr
open Adr (Str)
open Mp Go.Maps
open Frm (ownsRow_keeps ownsRow_mods ownsRow_ty ownsRow_base ownsRow_form)
def LeadDid (w : World) (sb fb n : Nat) (t : TabP) (S : List Str) (name : Str) (e : Ending) (w' : World) : Prop :=
 e = .returned (.tuple #[]) ∧ ∃ n' S', LdAt w' sb fb n' t S' S' ∧ Went t name S S' ∧ n' + 16 * leftA t S' ≤ n + 16 * leftA t S + 2 ∧ Mods (fun x => x = sb ∨ x = fb) w w'
theorem TabAt.tos {w : World} {g b1 b2 n : Nat} {t : TabP} (h : TabAt w g b1 b2 n t) (hR : Right t) {s : Str} (hl : s.length ≤ maxLen) :
  ∃ (s0 : ByteArray) (p : Option Addr) (c : Nat), (Instr.lookup 82 (.map (some b2)) (.string (bstr s)) false).run Tryz.prog w = .ok (.agg #[.string s0, .slice p (tosOf t s).length c]) w ∧ Piece w 0 9 (.slice p (tosOf t s).length c) ((tosOf t s).map strV) := by
 by_cases hs : s ∈ namesA t
 ·obtain ⟨a, ha, rfl⟩ := List.mem_map.1 hs
  rw [tosOf_some hR.na ha]
  obtain ⟨p, c, h1, h2⟩ := h.getA hR.na ha hl
  exact ⟨_, p, c, h1, h2⟩
 ·rw [tosOf_none hs]
  obtain ⟨a, -, h2, -, h4⟩ := h.lookA hl
  rw [h4 hs] at h2
  exact ⟨_, none, 0, h2, .inl ⟨none, 0, rfl, rfl, Nat.zero_le _, fun _ => rfl⟩⟩
section
variable {w w' : World} {sb fb n : Nat} {t : TabP} {S T : List Str}
theorem LdAt.objs (h : LdAt w sb fb n t S T) : ∀ x, (x = sb ∨ x = fb) → ∀ cs e fr, w.heap[x]? ≠ some (.cells cs e fr) := by
 obtain ⟨L, ⟨D, h1, -⟩, -⟩ := h.seen
 obtain ⟨F, ⟨E, h2, -⟩, -⟩ := h.fnd
 obtain ⟨es, cl, e1⟩ := map_obj h1
 obtain ⟨es', cl', e2⟩ := map_obj h2
 rintro x (rfl | rfl) cs e fr hh
 ·rw [e1] at hh; cases hh
 ·rw [e2] at hh; cases hh
theorem LdAt.again {s : Str} (h : LdAt w sb fb n t (s :: S) S) (hs : s ∈ S) : LdAt w sb fb n t (s :: S) (s :: S) := by
 refine ⟨h.seen, ?_, h.ne⟩
 obtain ⟨F, a, b, c⟩ := h.fnd
 refine ⟨F, a, fun x => ?_, c⟩
 rw [b x]
 constructor
 ·rintro ⟨u, hu, e, hm⟩; exact ⟨u, hu, e, List.mem_cons_of_mem _ hm⟩
 ·rintro ⟨u, hu, e, hm⟩
  rcases List.mem_cons.1 hm with hm | hm
  ·exact ⟨u, hu, e, by rw [hm]; exact hs⟩
  ·exact ⟨u, hu, e, hm⟩
end
end Usr
end Go.Proofs.YtklbemkafdccgaaGreat

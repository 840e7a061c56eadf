/- users: a sink beside other rows: what it changes is its own block and its bytes alone. -/
import Derived.Test.YtpndpooddehbbaaGreatEnBytes
import Derived.Test.YtpndpooddehbbaaGreatK33
import Derived.Test.YtpndpooddehbbaaGreatK29
namespace Go.Proofs.YtpndpooddehbbaaGreat
open Go.RowKit
namespace Usr
open Adr (Str)
open Oct (be putL putB okk textL SinkAt sinkU_any sinkText_any sinkI_any sinkBytes_any newSink_any be_length RetS unsV fitsB)
open Frm (Sole ownsRow_mods ownsRow_ty)
open Env (textB soleNew putL_be)
/-- what may be changed: a sink's block, and bytes -/
def SkT (w : World) (x : Nat) : Prop := ∃ cs e fr, w.heap[x]? = some (.cells cs e fr) ∧ (e = 185 ∨ e = 5)
def SkM (w w' : World) : Prop := Mods (SkT w) w w'
theorem skm_of {w w' : World} {g : Nat} {v : Value} {l : List UInt8} (h : SinkAt w g v l) (hm : Mods (Oct.Fr g v) w w') : SkM w w' := by
 refine hm.mono fun x hx => ?_
 rcases hx with rfl | hx
 ·exact ⟨_, _, _, h.blk, .inl rfl⟩
 ·rcases h.own.2 with ⟨rfl, _⟩ | ⟨q, cap, cur, rfl, _, hq, _⟩
  ·simp [Value.ownBlock] at hx
  ·simp [Value.ownBlock] at hx
   subst hx
   exact ⟨_, _, _, hq, .inr rfl⟩
theorem SkT.ne {w : World} {x : Nat} (h : SkT w x) {t : TypeId} (h1 : t ≠ 185) (h2 : t ≠ 5) : ∀ cs fr, w.heap[x]? ≠ some (.cells cs t fr) := by
 obtain ⟨cs, e, fr, hx, he⟩ := h
 intro cs' fr' hh
 rw [hx] at hh
 simp only [Option.some.injEq, Obj.cells.injEq] at hh
 obtain ⟨-, rfl, -⟩ := hh
 rcases he with he | he
 ·exact h1 he
 ·exact h2 he
theorem SkM.blk {w w' : World} (k : SkM w w') {q : Nat} {t : TypeId} {cs : Array Value} (h : Blk w q t cs) (h1 : t ≠ 185) (h2 : t ≠ 5) : Blk w' q t cs := h.mods k (fun hx => hx.ne h1 h2 _ _ h)
theorem SkM.row {w w' : World} (k : SkM w w') {b C n : Nat} {e : TypeId} {v : Value} {xs : List Value} (h : w.ownsRow b e C v n xs) (h1 : e ≠ 185) (h2 : e ≠ 5) : w'.ownsRow b e C v n xs := by
 refine ownsRow_mods h k (fun x hx hs => ?_)
 rcases h.2 with ⟨rfl, _⟩ | ⟨q, cap, cur, rfl, _, hq, _⟩
 ·simp [Value.ownBlock] at hx
 ·simp [Value.ownBlock] at hx
  subst hx
  exact hs.ne h1 h2 _ _ hq
theorem SkM.als {w w' : World} (k : SkM w w') {b : Nat} {v : Value} {l : List (AlP × Value)} (h : AlsAt w b v l) : AlsAt w' b v l :=
 ⟨k.row h.own (by decide) (by decide), fun x hx => (h.pay x hx).modsT k (fun y hy cs fr => hy.ne (by decide) (by decide) cs fr)⟩
theorem SkM.piece {w w' : World} (k : SkM w w') {b : Nat} {v : Value} {l : List Value} (h : Piece w b 9 v l) : Piece w' b 9 v l := h.modsT k (fun y hy cs fr => hy.ne (by decide) (by decide) cs fr)
def SkDid (W w : World) (g : Nat) (l : List UInt8) (r : Ending) (e : Ending) (w' : World) : Prop := ∃ v', e = r ∧ Sole W w' g v' l ∧ SkM w w'
theorem skU {W w : World} {g : Nat} {v : Value} {l : List UInt8} (h : Sole W w g v l) (x k : Nat) (ki : Int) (hki : ki = (k : Int)) (hk : 1 ≤ k ∧ k ≤ 8) (hx : x < 256 ^ k) (hl : l.length ≤ 1000000000) :
  Calls Tryz.prog 53 #[.pointer (some ⟨g, 0, none⟩), .int .u64 (x : Int), .int .i64 ki] w (SkDid W w g (l ++ be k x) (.returned (.bool true))) := by
 subst hki
 have h1 := putL_be hk hx
 have h64 : x < 18446744073709551616 := Nat.lt_of_lt_of_le hx (Nat.le_trans (Nat.pow_le_pow_right (by omega) hk.2) (by decide))
 refine (sinkU_any g v l x h64 k w h.sink (by omega)).mono ?_
 rintro e w' ⟨v', rfl, hs, hm, hf⟩
 refine ⟨v', by rw [h1.2], ?_, skm_of h.sink hm⟩
 have := h.did hs hm hf
 rwa [h1.1] at this
theorem skI {W w : World} {g : Nat} {v : Value} {l : List UInt8} (h : Sole W w g v l) (x : Int) (hf : fitsB x 8 = true) (hl : l.length ≤ 1000000000) :
  Calls Tryz.prog 54 #[.pointer (some ⟨g, 0, none⟩), .int .i64 x, .int .i64 8] w (SkDid W w g (l ++ be 8 (unsV x 8)) (.returned (.bool true))) := by
 have hb : -9223372036854775808 ≤ x ∧ x ≤ 9223372036854775807 := by
  unfold fitsB okk at hf
  simp at hf
  omega
 refine (sinkI_any g v l x hb 8 w h.sink (by omega)).mono ?_
 rintro e w' ⟨v', rfl, hs, hm, hfr⟩
 refine ⟨v', by rw [hf], ?_, skm_of h.sink hm⟩
 have := h.did hs hm hfr
 rw [if_pos hf, (Oct.uns_put hf).2.2.1] at this
 exact this
theorem skT {W w : World} {g : Nat} {v : Value} {l : List UInt8} (h : Sole W w g v l) (s : List UInt8) (hs : s.length ≤ 1000000) (hl : l.length ≤ 1000000000) :
  Calls Tryz.prog 52 #[.pointer (some ⟨g, 0, none⟩), .string (bstr s)] w (SkDid W w g (l ++ textB s) (.returned (.tuple #[]))) := by
 refine (sinkText_any g v l (bstr s) w h.sink (by rw [bstr_size]; omega)).mono ?_
 rintro e w' ⟨v', rfl, hk, hm, hf⟩
 refine ⟨v', rfl, ?_, skm_of h.sink hm⟩
 have := h.did hk hm hf
 have e : textL (bstr s) = textB s := by
  unfold textL textB
  rw [bstr_size, show putL s.length 4 = be 4 s.length from (putL_be (by decide) (Nat.lt_of_le_of_lt hs (by decide))).1]
  rfl
 rwa [e] at this
theorem usrL_len {u : UsrP} (h : u.name.length ≤ 32) : (usrL u).length ≤ 54 := by
 unfold usrL textB
 simp [be_length]
 omega
theorem flat_le {α : Type} (f : α → List UInt8) (b : Nat) : ∀ l : List α, (∀ x ∈ l, (f x).length ≤ b) → (l.flatMap f).length ≤ b * l.length
 | [], _ => by simp
 |a :: l, h => by
  rw [List.flatMap_cons, List.length_append, List.length_cons]
  have h1 := h a (List.mem_cons_self ..)
  have h2 := flat_le f b l (fun x hx => h x (List.mem_cons_of_mem _ hx))
  rw [Nat.mul_add]
  omega
theorem tosL_len {l : List Str} (h : ∀ x ∈ l, x.length ≤ 32) (h8 : l.length ≤ 8) : (tosL l).length ≤ 288 := by
 have := flat_le textB 36 l (fun x hx => by have := h x hx; unfold textB; simp [be_length]; omega)
 unfold tosL
 omega
theorem alL_len {a : AlP} (hn : a.name.length ≤ 32) (h : ∀ x ∈ a.tos, x.length ≤ 32) (h8 : a.tos.length ≤ 8) : (alL a).length ≤ 325 := by
 have := tosL_len h h8
 unfold alL textB
 simp [be_length]
 omega
theorem takeF_next {α : Type} (f : α → List UInt8) {l : List α} {j : Nat} (h : j < l.length) : (l.take (j + 1)).flatMap f = (l.take j).flatMap f ++ f l[j] := by
 rw [List.take_succ_eq_append_getElem h, List.flatMap_append]
 simp
theorem takeF_len {α : Type} (f : α → List UInt8) (b : Nat) (l : List α) (h : ∀ x ∈ l, (f x).length ≤ b) (j : Nat) : ((l.take j).flatMap f).length ≤ b * l.length := by
 refine Nat.le_trans (flat_le f b _ (fun x hx => h x (List.mem_of_mem_take hx))) (Nat.mul_le_mul_left _ ?_)
 rw [List.length_take]
 exact Nat.min_le_right _ _
end Usr
end Go.Proofs.YtpndpooddehbbaaGreat

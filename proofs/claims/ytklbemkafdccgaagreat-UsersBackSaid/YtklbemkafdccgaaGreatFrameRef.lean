/- The reference of Wrap. -/
import Derived.Test.YtklbemkafdccgaaGreatK19
import Derived.Deep.Draws
import Derived.Deep.RegionHeld3
namespace Go.Proofs.YtklbemkafdccgaaGreat
open Go.RowKit
namespace Frm
open Oct

theorem step_app {P : Program} {w : World} {ops : Array Oper} {o : Oper} {a : Act} {K : Act → World → Prop} {Q : Exit → Act → World → Prop} {E : Prop} {t e : TypeId} {size bytes base : Nat} (he : ElemOkS P t e size bytes) (hsz : 0 < size) (hgd : o.guard = none) (s x : Operand)
  (ho : o.op = .call { callee := .builtin .append, args := #[s, x], argTypes := #[t, t] })
  (v : Value) (n m c : Nat) (ad : Addr) (xs news : List Value) (hs : a.eval s = v) (hx : a.eval x = .slice (some ad) m c) (hown : w.ownsRow base e size v n xs) (hl : news.length = m * size) (hn : ∀ j u, news[j]? = some u → w.cell? (ad.add j) = some u) (h1 : ∀ u ∈ news, u.oneCell' = true)
  (hb : (n + m) * bytes ≤ 70368744177664) (hbytes : 0 < bytes) (hbase : base ≤ w.heap.size)
  (h : ∀ v' w', w'.ownsRow base e size v' (n + m) (xs ++ news) → w.grownBy w' v.ownBlock → K (a.put o.dst v') w') :
  if Region.wanted o (yielded ops a.tmps) = true then Oper.wp P o a w K Q else E := by
 have hw : Region.wanted o (yielded ops a.tmps) = true := by simp [Region.wanted, hgd]
 rw [if_pos hw]
 have h63 : n + m ≤ 70368744177664 := Nat.le_trans (Nat.le_mul_of_pos_right _ hbytes) hb
 have hml : n + m ≤ maxLen := by unfold maxLen; omega
 obtain ⟨v', w', hr, h2, h3, h4⟩ := run_app (P := P) w o.type he hsz v n xs hown ad m c news hl hn h1 hml (by omega) hbase
 unfold Oper.wp execOp
 simp only [ho, resolve, invoke, builtin, Sem.run_bind, Sem.run_pure, Result.andThen_ok, List.map_toArray, List.map_cons, List.map_nil, hs, hx, hr]
 exact h v' w' h2 h3

end Frm
end Go.Proofs.YtklbemkafdccgaaGreat

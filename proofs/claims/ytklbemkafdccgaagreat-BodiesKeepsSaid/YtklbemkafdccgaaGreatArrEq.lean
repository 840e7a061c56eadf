/- Arrays of numbers, compared. For every program. -/
import Derived.Test.YtklbemkafdccgaaGreatK00
import Derived.ChangeKeysEq
namespace Go.Proofs.YtklbemkafdccgaaGreat
open Go.RowKit

theorem run_eq_ints {P : Program} {t e : TypeId} {n d : Nat} {i : TypeInfo} (ht : P.underlying t = some (.array n e)) (he : P.underlying e = some (.int .i64)) (hi : P.info? e = some i) (hc : P.cellsOf e = 1) (hp : P.plainKey e = true) (la lb : List Int) (hla : la.length = n) (hlb : lb.length = n) (w : World) :
  (Op.equalIn (d + 2) t (.agg (la.map (Value.int .i64)).toArray) (.agg (lb.map (Value.int .i64)).toArray)).run P w = .ok (decide (la = lb)) w := by
 have HI : ∀ (a b : Int) w, (Op.equalIn (d + 1) e (.int .i64 a) (.int .i64 b)).run P w = .ok (a == b) w := fun a b w => run_equalIn_int w d e .i64 .i64 a b he
 show (Op.equalIn ((d + 1) + 1) t _ _).run P w = _
 generalize d + 1 = D at *
 simp only [Op.equalIn, Sem.run_bind, run_underlying ht, Result.andThen_ok, run_sizeOf w hi, hc, Nat.mul_one]
 rw [Std.Legacy.Range.forIn_eq_forIn_range']
 have hL : ∀ (k m : Nat) , m + k = n → la.take m = lb.take m → ∀ w, ((forIn (m := Sem) (List.range' m k 1) ((none : Option Bool), ()) fun i __s => do
       let __do_lift ← part e (List.map (Value.int IntKind.i64) la).toArray i
       let __do_lift_1 ← part e (List.map (Value.int IntKind.i64) lb).toArray i
       let __do_lift ← Op.equalIn D e __do_lift __do_lift_1
       if (!__do_lift) = true then pure (ForInStep.done (some false, ())) else pure (ForInStep.yield (none, ()))).run P w) = .ok (if la = lb then none else some false, ()) w := by
  intro k
  induction k with
  |zero =>
   intro m hm h w
   have : la = lb := by rw [List.take_of_length_le (by omega), List.take_of_length_le (by omega)] at h; exact h
   rw [if_pos this]
   rfl
  |succ k ih =>
   intro m hm h w
   have ha : (List.map (Value.int IntKind.i64) la).toArray[m]? = some (.int .i64 (la[m]'(by omega))) := by simp
   have hb : (List.map (Value.int IntKind.i64) lb).toArray[m]? = some (.int .i64 (lb[m]'(by omega))) := by simp
   rw [List.range'_succ]
   simp only [List.forIn_cons, Sem.run_bind, run_part_plain w hp ha, run_part_plain w hp hb, HI, Result.andThen_ok]
   by_cases hx : (la[m]'(by omega)) = (lb[m]'(by omega))
   ·have : ((la[m]'(by omega)) == (lb[m]'(by omega))) = true := by simpa using hx
    rw [this]
    simp only [Bool.not_true, Bool.false_eq_true, if_false, Sem.run_pure, Result.andThen_ok]
    exact ih (m + 1) (by omega) (by rw [List.take_succ_eq_append_getElem (by omega), List.take_succ_eq_append_getElem (by omega), h, hx]) w
   ·have : ((la[m]'(by omega)) == (lb[m]'(by omega))) = false := by simpa using hx
    rw [this]
    have hne : la ≠ lb := fun h => by subst h; exact hx rfl
    simp only [Bool.not_false, if_true, Sem.run_pure, Result.andThen_ok]
    rw [if_neg hne]
 have := hL n 0 (by omega) rfl w
 simp only [Std.Legacy.Range.size] at *
 rw [show (n - 0 + 1 - 1) / 1 = n from by omega, this, Result.andThen_ok]
 by_cases h : la = lb
 ·rw [if_pos h, decide_eq_true h]; rfl
 ·rw [if_neg h, decide_eq_false h]; rfl
end Go.Proofs.YtklbemkafdccgaaGreat

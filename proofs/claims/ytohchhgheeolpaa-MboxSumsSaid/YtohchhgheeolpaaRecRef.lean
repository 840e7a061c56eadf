/- The reference's in, Same, within, bare, Check. -/
import Derived.Test.YtohchhgheeolpaaRecPay
import Derived.Test.YtohchhgheeolpaaPGen
import Derived.Test.YtohchhgheeolpaaFrameRef
namespace Go.Proofs.Ytohchhgheeolpaa
open Go.RowKit
namespace Rcd
open Oct Frm

theorem in_any (n lo hi : Int) (w : World) : Calls Try.prog 223 #[.int .i64 n, .int .i64 lo, .int .i64 hi] w fun e w' => e = .returned (.bool (decide (lo ≤ n) && decide (n ≤ hi))) ∧ w = w' := by
  by_cases h1 : lo ≤ n
  · have h1' : decide (lo ≤ n) = true := decide_eq_true h1
    clear h1
    go_enter Try.func223, Try.ntmps223
    go_wp2_with fail
    go_ret
    exact ⟨congrArg (fun b => Ending.returned (Value.bool b)) (by rw [h1']; rfl), rfl⟩
  · have h1' : decide (lo ≤ n) = false := decide_eq_false h1
    clear h1
    go_enter Try.func223, Try.ntmps223
    go_wp2_with fail
    go_ret
    exact ⟨congrArg (fun b => Ending.returned (Value.bool b)) (by rw [h1']; rfl), rfl⟩

set_option maxRecDepth 100000 in
set_option maxHeartbeats 2000000 in
theorem rSame_any (r s : Rec) (v u : Value) (w : World) (hr : Row w v (r.data.map u8v)) (hs : Row w u (s.data.map u8v)) :
    Calls Try.prog 194 #[.agg (recA r v), .agg (recA s u)] w fun e w' => e = .returned (.bool (decide (r = s))) ∧ Keeps w w' := by
  obtain ⟨pv, cv, rfl, -, -⟩ := hr.form
  obtain ⟨pu, cu, rfl, -, -⟩ := hs.form
  simp only [List.length_map] at hr hs ⊢
  have HR := Lib.hid hr
  have HS := Lib.hid hs
  clear hr hs
  unfold recA
  go_enter Try.func194, Try.ntmps194
  go_upto_region 1 with fail
  generalize hW : World.alloc (World.alloc w _) _ = w2
  have HK : Hid (Keeps w w2) := Lib.hid (by rw [← hW]; exact ((Keeps.refl _).alloc _).alloc _)
  have AB : Blk w2 w.heap.size 82 (recA r (.slice pv r.data.length cv)) := by rw [← hW]; exact (Blk.new _ _ _ rfl).alloc _
  have BB : Blk w2 (w.heap.size + 1) 82 (recA s (.slice pu s.data.length cu)) := by rw [← hW]; exact Blk.new _ _ _ (by rw [asz])
  clear hW
  obtain ⟨a0, a1, a2, a3, a4, a5, a6, a7, a8, a9, a10, a11⟩ := rec12 AB
  obtain ⟨b0, b1, b2, b3, b4, b5, b6, b7, b8, b9, b10, b11⟩ := rec12 BB
  clear AB BB
  have c1 := rstr_at (HR.out.keeps HK.out)
  have c2 := rstr_at (HS.out.keeps HK.out)
  go_wp2_with fail
  all_goals go_ret
  all_goals first
    | exact ⟨congrArg (fun b => Ending.returned (Value.bool b)) (decide_eq_false (by intro h; subst h; first | contradiction | simp_all)).symm, HK.out⟩
    | exact ⟨congrArg (fun b => Ending.returned (Value.bool b)) (by rw [bstr_toList, bstr_toList, Bool.eq_iff_iff, decide_eq_true_eq, rec_eq]; simp only [bne_eq_false_iff_eq] at *; simp [allA, *]), HK.out⟩
end Rcd
end Go.Proofs.Ytohchhgheeolpaa

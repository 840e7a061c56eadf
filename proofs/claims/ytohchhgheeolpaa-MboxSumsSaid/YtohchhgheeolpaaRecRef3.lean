/- The reference's Light, put, get, Payload, Frame of records. Printed by gen_recref3.py. -/
import Derived.Test.YtohchhgheeolpaaRecRef2
import Derived.Test.YtohchhgheeolpaaRecReadPlain
namespace Go.Proofs.Ytohchhgheeolpaa
open Go.RowKit
namespace Rcd
open Oct Frm

theorem light_any (r : Rec) (v : Value) (w : World) (hr : Row w v (r.data.map u8v)) : Calls Try.prog 132 #[.agg (recA r v)] w fun e w' => e = .returned (.bool (decide (r.data.length ≤ 1000))) ∧ Keeps w w' := by
  obtain ⟨pv, cv, rfl, -, -⟩ := hr.form
  have hnl : (List.map u8v r.data).length = r.data.length := by simp
  rw [hnl] at hr ⊢
  clear hnl hr
  unfold recA
  go_enter Try.func132, Try.ntmps132
  go_wp2_with fail
  go_ret
  exact ⟨congrArg (fun b => Ending.returned (Value.bool b)) (by rw [Bool.eq_iff_iff, decide_eq_true_eq, decide_eq_true_eq]; omega), (Keeps.refl _).alloc _⟩
/-- bytes, and an error -/
def RetRI (W : World) (l : List UInt8) (n : Int) (e : Ending) (w' : World) : Prop :=
  ∃ p c, e = .returned (.tuple #[.slice p l.length c, .int .i64 n]) ∧ Row w' (.slice p l.length c) (l.map u8v) ∧ Keeps W w'
theorem retRI {W w1 : World} {l l' : List UInt8} {n m : Int} {b k c : Nat} (hl : l = l') (hn : n = m) (hb : b = w1.heap.size) (hk : k = l'.length) (hc : c = grownCap w1 (bstr l').size 0 5) (hm : l'.length ≤ maxLen) (hK : Keeps W w1) :
    RetRI W l n (.returned (.tuple #[.slice (some ⟨b, 0, none⟩) k c, .int .i64 m])) (Lib.bytesWorld w1 5 (bstr l')) := by
  subst hl hn hk
  exact ⟨_, _, rfl, bytes_row w1 _ l hb rfl hc hm, hK.trans (bytes_keeps _ _ _)⟩
theorem fld_nat {r : Rec} {k : Int} (hok : ∀ q ∈ partsL k, okP r q = true) {q : Part} (hq : q ∈ partsL k) : ∃ n : Nat, fld r q.off = (n : Int) ∧ n < 9223372036854775808 ∧ putL n q.width = be q.width.toNat n := by
  have h := hok q hq
  obtain ⟨h1, h2, h3, h4, h5⟩ := part_ok q hq
  have hb : q.low ≤ fld r q.off ∧ fld r q.off ≤ q.high := by simpa [okP] using h
  refine ⟨(fld r q.off).toNat, by omega, by omega, ?_⟩
  exact putL_fld (by omega) ⟨h1, h2⟩ (by omega)
theorem sz_app {a b : ByteArray} {m n : Nat} (ha : a.size = m) (hb : b.size = n) : (a ++ b).size = m + n := by rw [ByteArray.size_append, ha, hb]
theorem strb (w : World) (s : ByteArray) {n : Nat} (h : s.size = n) : (convert 9 22 (.string s)).run Try.prog w = .ok (.slice (some ⟨w.heap.size, 0, none⟩) n (grownCap w n 0 5)) (Lib.bytesWorld w 5 s) := by
  subst h
  exact Lib.run_convert_string_bytes w 9 22 5 s Try.underlying9 Try.underlying22 Try.underlying5

end Rcd
end Go.Proofs.Ytohchhgheeolpaa

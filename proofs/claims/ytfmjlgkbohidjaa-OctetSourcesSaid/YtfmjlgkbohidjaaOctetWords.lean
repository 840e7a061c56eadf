/- The words of the laws of octet: how they lie in memory; 'some'. -/
import Derived.Test.YtfmjlgkbohidjaaOctetLaws
import Derived.Test.YtfmjlgkbohidjaaOpen
namespace Go.Proofs.Ytfmjlgkbohidjaa
open Go.RowKit
namespace Oct

structure Word where
  kind : Int
  k : Int
  n : Int
  v : Nat
  s : ByteArray

def wordC (x : Word) : List Value := [.int .i64 x.kind, .int .i64 x.k, .int .i64 x.n, .int .u64 (x.v : Int), .string x.s]
def wordOk (x : Word) : Prop := (Lit.int .i64 x.kind).wf = true ∧ (Lit.int .i64 x.k).wf = true ∧ (Lit.int .i64 x.n).wf = true ∧ x.v < 18446744073709551616 ∧ x.s.size ≤ maxLen

theorem c31 : Try.prog.cellsOf 31 = 5 := by kernel_rfl
theorem c3 : Try.prog.cellsOf 3 = 1 := by kernel_rfl
theorem c29 : Try.prog.cellsOf 29 = 1 := by kernel_rfl
theorem c9 : Try.prog.cellsOf 9 = 1 := by kernel_rfl

theorem opens_word {H : Type} {enc : TypeId × Value → H} {w : World} {base : Nat} {sp : Nat → Bool} {held : Bool} : Opens enc Try.prog w base sp held 31 wordC wordOk := by
  have h := opens_struct (enc := enc) (w := w) (base := base) (sp := sp) (held := held) Try.underlying31 c31
    (opensF_cons rfl c3 (opens_int Try.underlying3) (opensF_cons rfl c3 (opens_int Try.underlying3) (opensF_cons rfl c3 (opens_int Try.underlying3)
      (opensF_cons rfl c29 (opens_int Try.underlying29) (opensF_cons rfl c9 (opens_string str9) opensF_nil)))))
  refine opens_map h (fun x => ⟨x.1, x.2.1, x.2.2.1, x.2.2.2.1.toNat, x.2.2.2.2.1⟩) ?_ ?_
  · rintro ⟨a, b, c, d, e, _⟩ ⟨h1, h2, h3, h4, h5, _⟩
    obtain ⟨v, rfl, hv⟩ := u64_nat h4
    rfl
  · rintro ⟨a, b, c, d, e, _⟩ ⟨h1, h2, h3, h4, h5, _⟩
    obtain ⟨v, rfl, hv⟩ := u64_nat h4
    exact ⟨h1, h2, h3, by simpa using hv, h5⟩

def someB (l : List Word) : Bool := decide (l.length ≤ 60) && l.all fun x => decide (x.s.size ≤ 300)

theorem wordC_len (x : Word) : (wordC x).length = 5 := rfl
/-- cell j of word i -/
theorem word_at {l : List Word} {i : Nat} (h : i < l.length) {j : Nat} (hj : j < 5) : (l.flatMap wordC)[i * 5 + j]? = (wordC l[i])[j]? := flat_get wordC_len l i j _ (List.getElem?_eq_getElem h) hj

set_option maxHeartbeats 1000000 in
theorem some_any (v : Value) (l : List Word) (w : World) (hr : RowS w 5 v l.length (l.flatMap wordC)) :
    Calls Try.prog 16 #[v] w fun e w' => e = .returned (.bool (someB l)) ∧ w = w' := by
  by_cases h60 : 60 < l.length
  · have H : Hid (someB l = false) := Lib.hid (by unfold someB; rw [decide_eq_false (by omega)]; rfl)
    obtain ⟨p, cap, rfl, -, -⟩ := hr.form
    go_enter Try.func16, Try.ntmps16
    go_wp2
    go_ret
    exact ⟨retB H.out.symm, rfl⟩
  · rcases Nat.eq_zero_or_pos l.length with h0 | hpos
    · have hl : l = [] := List.eq_nil_of_length_eq_zero h0
      subst hl
      have H : Hid (someB [] = true) := Lib.hid rfl
      obtain ⟨p, cap, rfl, -, -⟩ := hr.form
      go_enter Try.func16, Try.ntmps16
      go_wp2
      go_loop [3] (fun i => i = .int .i64 0) (fun _ => 0)
      case atStart => rfl
      case round =>
        obtain rfl := hrel
        go_wp2
        go_ret
        exact ⟨retB H.out.symm, rfl⟩
    · obtain ⟨b, off, cap, rfl, hc1, hc2, HC⟩ := hr.at_ hpos
      have HA : Hid (someB l = l.all fun x => decide (x.s.size ≤ 300)) := Lib.hid (by unfold someB; rw [decide_eq_true (by omega)]; rfl)
      clear hr
      go_enter Try.func16, Try.ntmps16
      go_wp2
      go_loop [3] (fun i => ∃ j : Nat, j ≤ l.length ∧ i = .int .i64 j ∧ Hid (∀ x ∈ l.take j, x.s.size ≤ 300)) (fun i => l.length - (intOf i).toNat)
      case atStart => exact ⟨0, Nat.zero_le _, rfl, Lib.hid (by simp)⟩
      case round =>
        obtain ⟨j, hj, rfl, HP⟩ := hrel
        by_cases hlt : j < l.length
        · have hcell : w.cell? ⟨b, off + j * 5 + 4, none⟩ = some (.string l[j].s) := by
            have := HC.out (j * 5 + 4) _ (by rw [word_at hlt (by omega)]; rfl)
            rw [Nat.add_assoc]
            exact this
          have HT : Hid (l.take (j + 1) = l.take j ++ [l[j]]) := Lib.hid (List.take_succ_eq_append_getElem hlt)
          have hmem : l[j] ∈ l := List.getElem_mem hlt
          generalize l[j] = x at *
          by_cases hbig : 300 < x.s.size
          · have H : Hid (someB l = false) := Lib.hid (by
              rw [HA.out, List.all_eq_false]
              exact ⟨x, hmem, by simp; omega⟩)
            go_wp2
            go_ret
            exact ⟨retB H.out.symm, rfl⟩
          · go_wp2
            go_round
            case rel => exact ⟨j + 1, by omega, by go_num, Lib.hid (by
              rw [HT.out]
              intro y hy
              rcases List.mem_append.1 hy with h | h
              · exact HP.out y h
              · simp at h; subst h; omega)⟩
            case measure => simp [intOf] <;> omega
        · have H : Hid (someB l = true) := Lib.hid (by
            rw [HA.out, List.all_eq_true]
            intro x hx
            have := HP.out x (by rw [List.take_of_length_le (by omega)]; exact hx)
            simpa using this)
          obtain rfl : j = l.length := by omega
          go_wp2
          go_ret
          exact ⟨retB H.out.symm, rfl⟩
end Oct
end Go.Proofs.Ytfmjlgkbohidjaa

/- What is put is taken as it was: plain. And the sink beside another row of the call's own. -/
import Derived.Test.YtfmjlgkbohidjaaOctetSinks
namespace Go.Proofs.Ytfmjlgkbohidjaa
open Go.RowKit
namespace Oct

/-- was the word put? -/
def inB (x : Word) : Bool := if x.kind = 0 then putB x.v x.k else if x.kind = 1 then fitsB x.n x.k else true

theorem putW_out {x : Word} (h : inB x = false) : putW x = [] := by
  unfold inB at h
  unfold putW
  split at h
  · rename_i h0
    rw [if_pos h0, putL, if_neg (by simp [h])]
  · rename_i h0
    split at h
    · rename_i h1
      rw [if_neg h0, if_pos h1, h]
      rfl
    · cases h

theorem taken {pre m post : List UInt8} {n : Nat} (h : m.length = n) : ((pre ++ (m ++ post)).drop pre.length).take n = m := by
  rw [List.drop_left, ← h, List.take_left]
theorem getB_pre {pre m post : List UInt8} {n : Nat} (h : m.length = n) (h1 : 1 ≤ n) (h8 : n ≤ 8) : getB (pre ++ (m ++ post)) (pre.length : Nat) n = true := by
  simp [getB, okk]
  omega
theorem getV_pre {pre m post : List UInt8} {n : Nat} (h : m.length = n) (h1 : 1 ≤ n) (h8 : n ≤ 8) : getV (pre ++ (m ++ post)) (pre.length : Nat) n = valOf m := by
  rw [getV_nat (getB_pre h h1 h8), taken h]

/-- a number is taken -/
theorem back_num {pre post : List UInt8} {v : Nat} {k : Int} (hp : putB v k = true) {L : List UInt8} (hL : L = pre ++ (putL v k ++ post)) :
    uE L.length pre.length 0 k = 0 ∧ uA L.length pre.length 0 k = (pre ++ putL v k).length ∧ uV L pre.length 0 k = v := by
  have hk : okk k = true := by simp [putB] at hp; exact hp.1
  have hv : v < 256 ^ k.toNat := by simp [putB] at hp; exact hp.2
  obtain ⟨n, rfl, h1, h8⟩ := okk_nat hk
  have hl : putL v n = be n v := by simp [putL, hp]
  have hbl := be_length n v
  rw [hl] at hL ⊢
  have hE : uE L.length pre.length 0 n = 0 := by
    simp [uE, hk]
    subst hL
    simp
    omega
  refine ⟨hE, by simp [uA, hE, hbl], ?_⟩
  simp only [uV, hE, if_true]
  rw [hL, getV_pre hbl h1 h8, valOf_be]
  exact Nat.mod_eq_of_lt (by simpa using hv)
theorem back_raw {pre post m : List UInt8} {k : Int} (hm : (m.length : Int) = k) {L : List UInt8} (hL : L = pre ++ (m ++ post)) :
    rE L.length pre.length 0 k = 0 ∧ rA L.length pre.length 0 k = (pre ++ m).length ∧ rL L pre.length 0 k = m := by
  subst hm
  have hE : rE L.length pre.length 0 m.length = 0 := by
    simp [rE]
    subst hL
    simp
    omega
  refine ⟨hE, by simp [rA, hE], ?_⟩
  simp only [rL, hE, if_true, Int.toNat_natCast]
  rw [hL, taken rfl]
theorem back_text {pre post : List UInt8} {s : ByteArray} (hs : s.size ≤ 300) {L : List UInt8} (hL : L = pre ++ (textL s ++ post)) :
    tE L pre.length 0 300 = 0 ∧ tA L pre.length 0 300 = (pre ++ textL s).length ∧ tL L pre.length 0 300 = s.data.toList := by
  have hp : putB s.size 4 = true := by simp [putB, okk]; omega
  have hpl : putL s.size 4 = be 4 s.size := by simp [putL, hp]
  have hbl := be_length 4 s.size
  have hsl : s.data.toList.length = s.size := by simp
  have hL2 : L = pre ++ (putL s.size 4 ++ (s.data.toList ++ post)) := by rw [hL, textL, List.append_assoc]
  obtain ⟨h1, h2, h3⟩ := back_num hp hL2
  have hg : getV L pre.length 4 = s.size := by
    have : uV L pre.length 0 4 = getV L pre.length 4 := by simp only [uV, h1, if_true]
    rw [← this, h3]
  have hlen : L.length = pre.length + (4 + (s.size + post.length)) := by rw [hL2, hpl]; simp [hbl]
  have hE : tE L pre.length 0 300 = 0 := by
    unfold tE
    rw [h1, hg, hlen, if_neg (by simp), if_neg (by omega), if_neg (by omega)]
  refine ⟨hE, ?_, ?_⟩
  · simp only [tA, hE, if_true]
    rw [hg, textL, hpl]
    simp [hbl]
    omega
  · simp only [tL, hE, if_true]
    rw [hg, hL2, hpl]
    have e : pre ++ (be 4 s.size ++ (s.data.toList ++ post)) = (pre ++ be 4 s.size) ++ (s.data.toList ++ post) := by rw [List.append_assoc]
    rw [e, show pre.length + 4 = (pre ++ be 4 s.size).length from by simp [hbl], taken hsl]

/-- the sink, and another row of the call's own -/
structure Beside (W w : World) (g : Nat) (vs : Value) (a : List UInt8) (e : TypeId) (va : Value) (xs : List Value) : Prop where
  sink : SinkAt w g vs a
  own : Own w W.heap.size e va xs
  apart : ∀ x, va.ownBlock = some x → ¬ Fr g vs x
  base : ∀ x, Fr g vs x → W.heap.size ≤ x
  keeps : Keeps W w
theorem Beside.kept {W w w' : World} {g : Nat} {vs va : Value} {a : List UInt8} {e : TypeId} {xs : List Value} (h : Beside W w g vs a e va xs) (k : Keeps w w') : Beside W w' g vs a e va xs :=
  ⟨h.sink.keeps k, h.own.keeps k, h.apart, h.base, h.keeps.trans k⟩
theorem Beside.did {W w w' : World} {g : Nat} {vs va vs' : Value} {a m : List UInt8} {e : TypeId} {xs : List Value} (h : Beside W w g vs a e va xs) (hs : SinkAt w' g vs' m) (hm : Mods (Fr g vs) w w') (hf : Fresh w vs vs') : Beside W w' g vs' m e va xs := by
  have hlt := h.own.block_lt
  refine ⟨hs, h.own.mods hm (fun x hx => h.apart x hx), ?_, ?_, hm.keeps h.keeps h.base⟩
  · rintro x hx (h1 | h1)
    · exact h.apart x hx (.inl h1)
    · rcases hf x h1 with h2 | h2
      · exact h.apart x hx (.inr h2)
      · have := hlt x hx; omega
  · rintro x (h1 | h1)
    · exact h.base x (.inl h1)
    · rcases hf x h1 with h2 | h2
      · exact h.base x (.inr h2)
      · have := h.keeps.size; omega
theorem Beside.grown {W w w' : World} {g : Nat} {vs va va' : Value} {m : List UInt8} {e : TypeId} {xs ys : List Value} (h : Beside W w g vs m e va xs)
    (ho : Own w' W.heap.size e va' ys) (hg : w.grownBy w' va.ownBlock) (hf : Fresh w va va') : Beside W w' g vs m e va' ys := by
  have hM : Mods (fun x => va.ownBlock = some x) w w' := (Mods.refl _ w).grown hg (fun k hk _ => hk)
  refine ⟨h.sink.mods hM (fun x hx hh => h.apart x hh hx), ho, ?_, h.base, hM.keeps h.keeps (fun x hx => h.own.base x hx)⟩
  intro x hx hfr
  rcases hf x hx with h1 | h1
  · exact h.apart x h1 hfr
  · have := h.sink.lt x hfr; omega

theorem bok : ElemOk Try.prog 57 4 1 := elemOk (z := .bool false) Try.underlying57 (by kernel_rfl) rfl
theorem oneCell_map_bool (l : List Bool) : ∀ u ∈ l.map Value.bool, u.oneCell' = true := by
  intro u hu
  obtain ⟨x, _, rfl⟩ := List.mem_map.1 hu
  rfl
end Oct
end Go.Proofs.Ytfmjlgkbohidjaa

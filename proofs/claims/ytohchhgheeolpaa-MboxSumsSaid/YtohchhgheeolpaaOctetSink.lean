/- The sink: what it holds, and what each call makes of it. bytes.Clone. -/
import Derived.Test.YtohchhgheeolpaaOctetPut
import Derived.Test.YtohchhgheeolpaaPGen
import Derived.Lib.SliceRun
namespace Go.Proofs.Ytohchhgheeolpaa
open Go.RowKit
namespace Oct

theorem _root_.Go.Proofs.Ytohchhgheeolpaa.Own.sl {w : World} {base : Nat} {e : TypeId} {v : Value} {l : List Value} (h : Own w base e v l) : ∃ p n cap, v = .slice p n cap := by
  obtain ⟨p, cap, rfl, -⟩ := h.row.form
  exact ⟨_, _, _, rfl⟩
theorem str9 : Try.prog.underlying 9 = some .string := Try.underlying9

set_option maxHeartbeats 400000 in
theorem clone_any (v : Value) (l : List UInt8) (w : World) (hr : Row w v (l.map u8v)) (hl : l.length ≤ 35184372088832) : Calls Try.prog 203 #[v] w (RetS w l) := by
  obtain ⟨p, cap, rfl, hc1, hc2⟩ := hr.formB
  have HR := Lib.hid hr
  clear hr
  have en := fun (w : World) (a : Option Addr) (n c : Nat) => Lib.run_eql_slice_nil (P := Try.prog) w 22 5 a n c 0 0 Try.underlying22
  cases p with
  | none =>
    have HE : Hid (RetS w l (.returned (.slice none 0 0)) w) := Lib.hid (by
      have : l = [] := by
        rcases HR.out with ⟨a0, cap', -, hl0, -, -⟩ | ⟨b, off, cap', hv, -⟩
        · simpa using hl0
        · simp at hv
      subst this
      exact ⟨_, rfl, Own.nil _ _ _, Keeps.refl _⟩)
    go_enter Try.func203, Try.ntmps203
    go_wp2
    go_ret
    exact HE.out
  | some ad =>
    go_enter Try.func203, Try.ntmps203
    go_wp2_with (at_builtin; refine wpList_app1 (base := w.heap.size) u8ok rfl _ _ rfl (.slice (some ⟨w.heap.size, 0, none⟩) 0 0) _ [] (l.map u8v) rfl rfl (Own.empty w.heap.size rfl (Nat.le_refl _)) (HR.out.keeps ((Keeps.refl _).alloc _)) (oneCell_map_u8 _) (by simp; omega) (by omega) (by simp) ?_; intro v' w2 ho2 hg2 hf2)
    go_ret
    exact ⟨_, rfl, by simpa using ho2, ((Keeps.refl _).alloc _).grown hg2 (by intro k hk; simp [Value.ownBlock] at hk; omega)⟩

/-- the blocks of a sink at g with slice v -/
def Fr (g : Nat) (v : Value) (x : Nat) : Prop := x = g ∨ v.ownBlock = some x

structure SinkAt (w : World) (g : Nat) (v : Value) (l : List UInt8) : Prop where
  blk : Blk w g 268 #[v]
  own : Own w 0 5 v (l.map u8v)

theorem SinkAt.keeps {w w' : World} {g : Nat} {v : Value} {l : List UInt8} (h : SinkAt w g v l) (k : Keeps w w') : SinkAt w' g v l := ⟨h.blk.keeps k, h.own.keeps k⟩
theorem SinkAt.mods {w w' : World} {g : Nat} {v : Value} {l : List UInt8} {S : Nat → Prop} (h : SinkAt w g v l) (k : Mods S w w') (hn : ∀ x, Fr g v x → ¬ S x) : SinkAt w' g v l := ⟨h.blk.mods k (hn g (.inl rfl)), h.own.mods k fun x hx => hn x (.inr hx)⟩
theorem SinkAt.ne {w : World} {g : Nat} {v : Value} {l : List UInt8} (h : SinkAt w g v l) : v.ownBlock ≠ some g := h.own.blk_ne h.blk (by decide)
theorem SinkAt.lt {w : World} {g : Nat} {v : Value} {l : List UInt8} (h : SinkAt w g v l) : ∀ x, Fr g v x → x < w.heap.size := fun x hx => hx.elim (fun e => e ▸ h.blk.lt) (fun e => h.own.block_lt x e)

/-- the call answers r; the sink holds l' then, and no other old block is changed -/
def SinkDid (W : World) (g : Nat) (v : Value) (l' : List UInt8) (r : Ending) (e : Ending) (w' : World) : Prop :=
  ∃ v', e = r ∧ SinkAt w' g v' l' ∧ Mods (Fr g v) W w' ∧ Fresh W v v'

theorem sink_stored {w w2 : World} {g : Nat} {v v' : Value} {l l' : List UInt8} (h : SinkAt w g v l) (hg : w.grownBy w2 v.ownBlock) (ho : Own w2 0 5 v' (l'.map u8v)) :
    SinkAt (w2.setCell ⟨g, 0, none⟩ v') g v' l' ∧ Mods (Fr g v) w (w2.setCell ⟨g, 0, none⟩ v') := by
  have hb : Blk w2 g 268 #[v] := h.blk.grown hg h.ne
  have hne : v'.ownBlock ≠ some g := ho.blk_ne hb (by decide)
  refine ⟨⟨by simpa using hb.set_ 0 v', ho.setCell _ hne⟩, ?_⟩
  exact ((Mods.refl _ w).grown hg (fun k hk _ => .inr hk)).setCell (fun _ => .inl rfl) _

/-- a new sink -/
def NewSinkDid (W : World) (e : Ending) (w' : World) : Prop := ∃ g, e = .returned (.pointer (some ⟨g, 0, none⟩)) ∧ W.heap.size ≤ g ∧ SinkAt w' g (.slice none 0 0) [] ∧ Keeps W w'

theorem newSink_any (w : World) : Calls Try.prog 176 #[] w (NewSinkDid w) := by
  have HE : Hid (NewSinkDid w (.returned (.pointer (some ⟨w.heap.size, 0, none⟩))) (w.alloc (.cells #[.slice none 0 0] 268))) :=
    Lib.hid ⟨w.heap.size, rfl, Nat.le_refl _, ⟨Blk.new _ _ _ rfl, Own.nil _ _ _⟩, (Keeps.refl _).alloc _⟩
  go_enter Try.func176, Try.ntmps176
  go_wp2
  go_ret
  exact HE.out

set_option maxHeartbeats 400000 in
theorem sinkU_any (g : Nat) (v : Value) (l : List UInt8) (x : Nat) (hx : x < 18446744073709551616) (k : Int) (w : World) (h : SinkAt w g v l) (hl : l.length ≤ 35184372088832) :
    Calls Try.prog 177 #[.pointer (some ⟨g, 0, none⟩), .int .u64 (x : Int), .int .i64 k] w (SinkDid w g v (l ++ putL x k) (.returned (.bool (putB x k)))) := by
  have HS := Lib.hid h
  clear h
  go_enter Try.func177, Try.ntmps177
  go_wp2_with fail
  refine (put_any x hx k _).mono ?_
  rintro e w1 ⟨b, rfl, hown1, hK1⟩
  have hlen : (putL x k).length ≤ 8 := by unfold putL; split <;> simp [be_length, putB, okk] at * <;> omega
  have HS1 := Lib.hid (HS.out.keeps hK1)
  have hc : w1.cell? ⟨g, 0, none⟩ = some v := by have := HS1.out.blk.cell 0; simpa using this
  have hf : w1.frozen? ⟨g, 0, none⟩ = false := HS1.out.blk.frozen 0
  have HO := Lib.hid hown1
  clear hown1
  go_wp2_with (at_builtin; refine wpList_app1 (base := 0) u8ok rfl _ _ rfl v b (l.map u8v) ((putL x k).map u8v) rfl rfl HS1.out.own HO.out.row (oneCell_map_u8 _) (by simp; omega) (by omega) (Nat.zero_le _) ?_; intro v' w2 ho2 hg2 hf2; obtain ⟨p2, n2, cap2, rfl⟩ := ho2.sl; have hc2 : w2.cell? ⟨g, 0, none⟩ = some v := by { have := (HS1.out.blk.grown hg2 HS1.out.ne).cell 0; simpa using this }; have hfr2 : w2.frozen? ⟨g, 0, none⟩ = false := (HS1.out.blk.grown hg2 HS1.out.ne).frozen 0)
  rw [← List.map_append] at ho2
  have hst := sink_stored HS1.out hg2 ho2
  go_ret
  exact ⟨_, rfl, hst.1, (Mods.of_keeps hK1 : Mods (Fr g v) w w1).trans hst.2 (fun _ h _ => h), hf2.back hK1.size⟩

set_option maxHeartbeats 400000 in
theorem sinkRaw_any (g : Nat) (v : Value) (l : List UInt8) (u : Value) (m : List UInt8) (w : World) (h : SinkAt w g v l) (hr : Row w u (m.map u8v)) (hl : l.length + m.length ≤ 35184372088832) :
    Calls Try.prog 180 #[.pointer (some ⟨g, 0, none⟩), u] w (SinkDid w g v (l ++ m) (.returned (.tuple #[]))) := by
  have HS1 := Lib.hid h
  have hc : w.cell? ⟨g, 0, none⟩ = some v := by have := h.blk.cell 0; simpa using this
  have hf : w.frozen? ⟨g, 0, none⟩ = false := h.blk.frozen 0
  have HR := Lib.hid hr
  clear h hr
  go_enter Try.func180, Try.ntmps180
  go_wp2_with (at_builtin; refine wpList_app1 (base := 0) u8ok rfl _ _ rfl v u (l.map u8v) (m.map u8v) rfl rfl HS1.out.own HR.out (oneCell_map_u8 _) (by simp; omega) (by omega) (Nat.zero_le _) ?_; intro v' w2 ho2 hg2 hf2; obtain ⟨p2, n2, cap2, rfl⟩ := ho2.sl; have hc2 : w2.cell? ⟨g, 0, none⟩ = some v := by { have := (HS1.out.blk.grown hg2 HS1.out.ne).cell 0; simpa using this }; have hfr2 : w2.frozen? ⟨g, 0, none⟩ = false := (HS1.out.blk.grown hg2 HS1.out.ne).frozen 0)
  rw [← List.map_append] at ho2
  have hst := sink_stored HS1.out hg2 ho2
  go_end0
  exact ⟨_, rfl, hst.1, hst.2, hf2⟩

/-- a text's bytes -/
def textL (s : ByteArray) : List UInt8 := putL s.size 4 ++ s.data.toList

set_option maxHeartbeats 400000 in
theorem sinkText_any (g : Nat) (v : Value) (l : List UInt8) (s : ByteArray) (w : World) (h : SinkAt w g v l) (hl : l.length + s.size ≤ 35184372088000) :
    Calls Try.prog 182 #[.pointer (some ⟨g, 0, none⟩), .string s] w (SinkDid w g v (l ++ textL s) (.returned (.tuple #[]))) := by
  have HC := Lib.hid (sinkU_any g v l s.size (by omega) 4 w h (by omega))
  clear h
  go_enter Try.func182, Try.ntmps182
  go_wp2_with fail
  refine HC.out.mono ?_
  rintro e w1 ⟨v1, rfl, hS1, hM1, hF1⟩
  have hlen : (putL s.size 4).length ≤ 8 := by unfold putL; split <;> simp [be_length]
  have HS1 := Lib.hid hS1
  have hc : w1.cell? ⟨g, 0, none⟩ = some v1 := by have := hS1.blk.cell 0; simpa using this
  have hf : w1.frozen? ⟨g, 0, none⟩ = false := hS1.blk.frozen 0
  clear hS1 HC
  go_wp2_with (at_builtin; refine wpList_appstr (base := 0) Try.underlying22 str9 i22 rfl _ _ rfl v1 ((l ++ putL s.size 4).map u8v) s rfl rfl HS1.out.own (by simp; omega) (Nat.zero_le _) ?_; intro v' w2 ho2 hg2 hf2; obtain ⟨p2, n2, cap2, rfl⟩ := ho2.sl; have hc2 : w2.cell? ⟨g, 0, none⟩ = some v1 := by { have := (HS1.out.blk.grown hg2 HS1.out.ne).cell 0; simpa using this }; have hfr2 : w2.frozen? ⟨g, 0, none⟩ = false := (HS1.out.blk.grown hg2 HS1.out.ne).frozen 0)
  rw [← List.map_append] at ho2
  have hst := sink_stored HS1.out hg2 ho2
  go_end0
  exact ⟨_, rfl, by rw [textL, ← List.append_assoc]; exact hst.1, hM1.trans hst.2 (fun x h hx => h.elim .inl fun e => (hF1 x e).elim .inr fun h => by omega), hF1.trans hf2 hM1.size⟩

theorem sinkBytes_any (g : Nat) (v : Value) (l : List UInt8) (w : World) (h : SinkAt w g v l) (hl : l.length ≤ 35184372088832) :
    Calls Try.prog 179 #[.pointer (some ⟨g, 0, none⟩)] w (RetS w l) := by
  have hc : w.cell? ⟨g, 0, none⟩ = some v := by have := h.blk.cell 0; simpa using this
  have HC := Lib.hid (clone_any v l w h.own.row hl)
  clear h
  go_enter Try.func179, Try.ntmps179
  go_wp2_with fail
  refine HC.out.mono ?_
  rintro e w1 ⟨b, rfl, hown1, hK1⟩
  go_wp2_with fail
  go_ret
  exact ⟨_, rfl, hown1, hK1⟩

end Oct
end Go.Proofs.Ytohchhgheeolpaa

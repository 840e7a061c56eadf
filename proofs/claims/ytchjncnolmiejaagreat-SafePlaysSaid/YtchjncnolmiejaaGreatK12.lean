/- Several texts in one: FrameWrap, FrameRead. -/
import Derived.Test.YtchjncnolmiejaaGreatK00
import Derived.Test.YtchjncnolmiejaaGreatK10
import Derived.Test.YtchjncnolmiejaaGreatK11
import Derived.Deep.DeepCutAuto
import Derived.Deep.LoopGhost
/- frame.Veil and Wrap, and the reference's, compute the plain ones. -/
namespace Go.Proofs.YtchjncnolmiejaaGreat
open Go.RowKit
namespace Frm
open Oct

theorem str_at' {w : World} {v : Value} {l : List UInt8} (h : Row w v (l.map u8v)) : (convert 22 9 v).run Tryz.prog w = .ok (.string (bstr l)) w := h.str Tryz.underlying22 Tryz.underlying5 str9
/-- a sink of the call's own -/
structure Sole (W w : World) (g : Nat) (vs : Value) (a : List UInt8) : Prop where
  sink : SinkAt w g vs a
  base : ∀ x, Fr g vs x → W.heap.size ≤ x
  keeps : Keeps W w
theorem Sole.kept {W w w' : World} {g : Nat} {vs : Value} {a : List UInt8} (h : Sole W w g vs a) (k : Keeps w w') : Sole W w' g vs a := ⟨h.sink.keeps k, h.base, h.keeps.trans k⟩
theorem Sole.did {W w w' : World} {g : Nat} {vs vs' : Value} {a m : List UInt8} (h : Sole W w g vs a) (hs : SinkAt w' g vs' m) (hm : Mods (Fr g vs) w w') (hf : Fresh w vs vs') : Sole W w' g vs' m := by
  refine ⟨hs, ?_, hm.keeps h.keeps h.base⟩
  rintro x (h1 | h1)
  · exact h.base x (.inl h1)
  · rcases hf x h1 with h2 | h2
    · exact h.base x (.inr h2)
    · have := h.keeps.size; omega
theorem Sole.new {W w : World} {g : Nat} (hs : SinkAt w g (.slice none 0 0) []) (hg : W.heap.size ≤ g) (hk : Keeps W w) : Sole W w g (.slice none 0 0) [] :=
  ⟨hs, by rintro x (rfl | h); omega; simp [Value.ownBlock] at h, hk⟩

/-- bytes of the call's own, and an error -/
def RetSI (W : World) (l : List UInt8) (n : Int) (e : Ending) (w' : World) : Prop :=
  ∃ v, e = .returned (.tuple #[v, .int .i64 n]) ∧ Own w' W.heap.size 5 v (l.map u8v) ∧ Keeps W w'

end Frm
end Go.Proofs.YtchjncnolmiejaaGreat

/- The reader of veiled bytes. -/
namespace Go.Proofs.YtchjncnolmiejaaGreat
open Go.RowKit
namespace Frm
open Oct

/-- a reader at g, of bytes b that lay in memory before W0 -/
structure RdIs (W0 w : World) (g : Nat) (b : Value) (l : List UInt8) (a : Nat) (ov : Value) (o : List UInt8) : Prop where
  blk : Blk w g 200 #[b, .int .i64 (a : Int), ov]
  own : Own w 0 5 ov (o.map u8v)
  base : ∀ x, Fr g ov x → W0.heap.size ≤ x
  keeps : Keeps W0 w
  le : a ≤ l.length

section
variable {W0 w w' : World} {g a : Nat} {b ov : Value} {l o : List UInt8}
theorem RdIs.kept (h : RdIs W0 w g b l a ov o) (k : Keeps w w') : RdIs W0 w' g b l a ov o := ⟨h.blk.keeps k, h.own.keeps k, h.base, h.keeps.trans k, h.le⟩
theorem RdIs.ne (h : RdIs W0 w g b l a ov o) : ov.ownBlock ≠ some g := h.own.blk_ne h.blk (by decide)
theorem RdIs.cells (h : RdIs W0 w g b l a ov o) : w.cell? ⟨g, 0, none⟩ = some b ∧ w.cell? ⟨g, 1, none⟩ = some (.int .i64 (a : Int)) ∧ w.cell? ⟨g, 2, none⟩ = some ov :=
  ⟨by rw [h.blk.cell]; rfl, by rw [h.blk.cell]; rfl, by rw [h.blk.cell]; rfl⟩
theorem RdIs.free (h : RdIs W0 w g b l a ov o) : w.frozen? ⟨g, 0, none⟩ = false ∧ w.frozen? ⟨g, 1, none⟩ = false ∧ w.frozen? ⟨g, 2, none⟩ = false :=
  ⟨h.blk.frozen 0, h.blk.frozen 1, h.blk.frozen 2⟩
theorem RdIs.setA (h : RdIs W0 w g b l a ov o) (a' : Nat) (ha : a' ≤ l.length) : RdIs W0 (w.setCell ⟨g, 1, none⟩ (.int .i64 (a' : Int))) g b l a' ov o :=
  ⟨by simpa using h.blk.set_ 1 (.int .i64 (a' : Int)), h.own.setCell _ h.ne, h.base, h.keeps.setCell (p := ⟨g, 1, none⟩) (h.base g (.inl rfl)) _, ha⟩
theorem RdIs.grown {ov' : Value} {o' : List UInt8} (h : RdIs W0 w g b l a ov o) (hg : w.grownBy w' ov.ownBlock) (ho : Own w' 0 5 ov' (o'.map u8v)) (hf : Fresh w ov ov') : RdIs W0 (w'.setCell ⟨g, 2, none⟩ ov') g b l a ov' o' := by
  have hb : Blk w' g 200 #[b, .int .i64 (a : Int), ov] := h.blk.grown hg h.ne
  have hne : ov'.ownBlock ≠ some g := ho.blk_ne hb (by decide)
  refine ⟨by simpa using hb.set_ 2 ov', ho.setCell _ hne, ?_, (h.keeps.grown hg (fun k hk => h.base k (.inr hk))).setCell (p := ⟨g, 2, none⟩) (h.base g (.inl rfl)) _, h.le⟩
  rintro x (h1 | h1)
  · exact h.base x (.inl h1)
  · rcases hf x h1 with h2 | h2
    · exact h.base x (.inr h2)
    · have := h.keeps.size; omega
end

def ReadDid (W0 : World) (g : Nat) (b : Value) (l : List UInt8) (a : Nat) (o : List UInt8) (r : Int × List UInt8 × Nat) (e : Ending) (w' : World) : Prop :=
  ∃ ov' a' o', e = .returned (.int .i64 r.1) ∧ RdIs W0 w' g b l a' ov' o' ∧ (r.1 = 0 → a' = a + r.2.2 ∧ o' = o ++ r.2.1)

theorem drop_cons' {l : List UInt8} {a : Nat} (h : a < l.length) : l.drop a = l[a] :: l.drop (a + 1) := List.drop_eq_getElem_cons h
theorem rd_plain {c : UInt8} {r : List UInt8} (h0 : c ≠ 80) (h1 : c ≠ 81) : rd (c :: r) = (0, c, 1) := by simp [rd, h0, h1]
theorem rd_81big {d : UInt8} {r : List UInt8} (h : 1 < d.toNat) : (rd (81 :: d :: r)).1 = 3 := by simp [rd, h]
theorem rd_81 {d : UInt8} {r : List UInt8} (h : ¬ 1 < d.toNat) : rd (81 :: d :: r) = (0, 80 + d, 2) := by simp [rd, h]
theorem rdN_err {k : Nat} {l : List UInt8} {e : Int} (h : (rd l).1 = e) (he : e ≠ 0) : (rdN (k + 1) l).1 = e := by simp [rdN, h, he]
theorem rdN_ok {k : Nat} {l : List UInt8} {c : UInt8} {u : Nat} (h : rd l = (0, c, u)) : rdN (k + 1) l = ((rdN k (l.drop u)).1, c :: (rdN k (l.drop u)).2.1, u + (rdN k (l.drop u)).2.2) := by simp [rdN, h]

theorem beq80 {c : UInt8} {n : UInt8} (h : c ≠ n) : ((c.toNat : Int) == (n.toNat : Int)) = false := by
  have : c.toNat ≠ n.toNat := fun e => h (UInt8.toNat_inj.1 e)
  rw [beq_eq_false_iff_ne]; omega

set_option maxRecDepth 100000 in
set_option maxHeartbeats 2000000 in
theorem read_any (W0 : World) (g : Nat) (b : Value) (l : List UInt8) (a : Nat) (ov : Value) (o : List UInt8) (k : Nat) (w : World) (hb : Row W0 b (l.map u8v)) (h : RdIs W0 w g b l a ov o) (hs : o.length + k ≤ 1048576) :
    Calls Tryz.prog 153 #[.pointer (some ⟨g, 0, none⟩), .int .i64 ((o.length + k : Nat) : Int)] w (ReadDid W0 g b l a o (rdN k (l.drop a))) := by
  obtain ⟨p, cap, rfl, hc1, hc2⟩ := hb.formB
  have hcells : 0 < l.length → ∃ bb off, p = some ⟨bb, off, none⟩ ∧ Hid (∀ i x, l[i]? = some x → W0.cell? ⟨bb, off + i, none⟩ = some (.int .u8 (x.toNat : Int))) := fun hl => by
    obtain ⟨bb, off, cap', hv, -, -, hh⟩ := hb.bytesAt hl
    simp only [Value.slice.injEq] at hv
    exact ⟨bb, off, hv.1, hh⟩
  have HCells := Lib.hid hcells
  have HI := Lib.hid h
  clear hb hcells h
  rw [show ((o.length + k : Nat) : Int) = (o.length : Int) + k from by omega]
  go_enter Tryz.func153, Tryz.ntmps153
  go_wp2_with fail
  go_loopg [] k (fun gk wr => ∃ (a' : Nat) (ov' : Value) (m : List UInt8), RdIs W0 wr g (.slice p l.length cap) l a' ov' (o ++ m) ∧ m.length + gk = k ∧ a ≤ a' ∧ (rdN k (l.drop a)).1 = (rdN gk (l.drop a')).1 ∧ (rdN k (l.drop a)).2.1 = m ++ (rdN gk (l.drop a')).2.1 ∧ (rdN k (l.drop a)).2.2 = (a' - a) + (rdN gk (l.drop a')).2.2)
  case atStart => exact ⟨a, ov, [], by simpa using HI.out, by simp, Nat.le_refl _, rfl, rfl, by simp⟩
  case round =>
    obtain ⟨a', ov', m, hI, hm, haa, he1, he2, he3⟩ := hrel
    obtain ⟨hc0, hc1, hc2⟩ := hI.cells
    obtain ⟨hf0, hf1, hf2⟩ := hI.free
    obtain ⟨po, capo, rfl, hpo1, hpo2⟩ := hI.own.row.formB
    have hom : (o ++ m).length = o.length + m.length := List.length_append
    have HE := Lib.hid (And.intro he1 (And.intro he2 he3))
    have HOM := Lib.hid hom
    have hle := hI.le
    have HIr := Lib.hid hI
    clear he1 he2 he3 hom hI HI
    rcases Nat.eq_zero_or_pos gk with rfl | hgk
    · have hd : decide ((o.length : Int) + m.length < (o.length : Int) + k) = false := by simp; omega
      have HF : Hid (ReadDid W0 g (.slice p l.length cap) l a o (rdN k (l.drop a)) (.returned (.int .i64 0)) wr) := Lib.hid (by
        have h1 : (rdN k (l.drop a)).1 = 0 := HE.out.1
        refine ⟨_, a', _, by rw [h1], HIr.out, fun _ => ⟨?_, ?_⟩⟩
        · rw [HE.out.2.2]; simp [rdN]; omega
        · rw [HE.out.2.1]; simp [rdN])
      go_wp2_with fail
      go_ret
      exact HF.out
    · obtain ⟨n', rfl⟩ : ∃ n', gk = n' + 1 := ⟨gk - 1, by omega⟩
      have hmk : m.length < k := by omega
      have HErr : Hid (∀ er, er ≠ 0 → (rd (l.drop a')).1 = er → ∀ w2, Keeps wr w2 → ReadDid W0 g (.slice p l.length cap) l a o (rdN k (l.drop a)) (.returned (.int .i64 er)) w2) := Lib.hid (fun er hne hr w2 hk => by
        have h1 : (rdN k (l.drop a)).1 = er := by rw [HE.out.1, rdN_err hr hne]
        exact ⟨_, a', _, by rw [h1], HIr.out.kept hk, fun h0 => by rw [h1] at h0; exact absurd h0 hne⟩)
      have hlt : (o.length : Int) + m.length < (o.length : Int) + k := by omega
      by_cases hend : a' = l.length
      · have hee : ((a' : Int) == (l.length : Int)) = true := by simp [hend]
        have HX := Lib.hid (HErr.out 2 (by decide) (by rw [hend, List.drop_length]; rfl))
        clear hend HErr
        go_wp2_with fail
        go_quiet (fail)
        go_wp2_with fail
        go_ret
        exact HX.out _ (by repeat (first | exact Keeps.refl _ | refine Keeps.drewN ?_ _))
      · have ha : a' < l.length := by omega
        have hee : ((a' : Int) == (l.length : Int)) = false := by rw [beq_eq_false_iff_ne]; omega
        obtain ⟨bb, off, rfl, HC⟩ := HCells.out (by omega)
        have hcell : wr.cell? ⟨bb, off + a', none⟩ = some (.int .u8 (l[a'].toNat : Int)) := keep1 HIr.out.keeps (HC.out a' _ (by simp [ha]))
        have HD := Lib.hid (drop_cons' ha)
        clear hend
        have hxl := l[a'].toNat_lt
        by_cases h80 : l[a'] = 80
        · have hx0 : ((l[a'].toNat : Int) == 80) = true := by rw [h80]; rfl
          have HX := Lib.hid (HErr.out 3 (by decide) (by rw [HD.out, h80]; rfl))
          clear h80 HErr
          generalize l[a'] = x at *
          go_wp2_with fail
          go_quiet (fail)
          go_wp2_with fail
          go_quiet (fail)
          go_wp2_with fail
          go_ret
          exact HX.out _ (by repeat (first | exact Keeps.refl _ | refine Keeps.drewN ?_ _))
        have hx0 : ((l[a'].toNat : Int) == 80) = false := beq80 h80
        by_cases h81 : l[a'] = 81
        · have hx1 : ((l[a'].toNat : Int) != 81) = false := by rw [h81]; rfl
          by_cases hend2 : a' + 1 = l.length
          · have hee2 : (((a' : Int) + 1) == (l.length : Int)) = true := by simp; omega
            have HX := Lib.hid (HErr.out 2 (by decide) (by rw [HD.out, h81, hend2, List.drop_length]; rfl))
            clear h80 h81 HErr hend2
            generalize l[a'] = x at *
            go_wp2_with fail
            go_quiet (fail)
            go_wp2_with fail
            go_quiet (fail)
            go_wp2_with fail
            go_quiet (fail)
            go_wp2_with fail
            go_ret
            exact HX.out _ (by repeat (first | exact Keeps.refl _ | refine Keeps.drewN ?_ _))
          · have ha2 : a' + 1 < l.length := by omega
            have hee2 : (((a' : Int) + 1) == (l.length : Int)) = false := by rw [beq_eq_false_iff_ne]; omega
            have hcell2 : wr.cell? ⟨bb, off + (a' + 1), none⟩ = some (.int .u8 (l[a' + 1].toNat : Int)) := keep1 HIr.out.keeps (HC.out (a' + 1) _ (by simp [ha2]))
            have HD2 := Lib.hid (drop_cons' ha2)
            have hyl := l[a' + 1].toNat_lt
            have hi2 : ((a' : Int) + 1).toNat = a' + 1 := by omega
            clear hend2
            by_cases hbig : 1 < l[a' + 1].toNat
            · have HX := Lib.hid (HErr.out 3 (by decide) (by rw [HD.out, h81, HD2.out]; exact rd_81big hbig))
              have hbig' : (1 : Int) < (l[a' + 1].toNat : Int) := by omega
              clear h80 h81 HErr hbig
              generalize l[a'] = x at *
              generalize l[a' + 1] = y at *
              go_wp2_with fail
              go_quiet (fail)
              go_wp2_with fail
              go_quiet (fail)
              go_wp2_with fail
              go_quiet (fail)
              go_wp2_with fail
              go_quiet (fail)
              go_wp2_with fail
              go_ret
              exact HX.out _ (by repeat (first | exact Keeps.refl _ | refine Keeps.drewN ?_ _))
            · have HR : Hid (rd (l.drop a') = (0, 80 + l[a' + 1], 2)) := Lib.hid (by rw [HD.out, h81, HD2.out]; exact rd_81 hbig)
              have hbd : decide ((1 : Int) < (l[a' + 1].toNat : Int)) = false := by simp; omega
              have hsum : Hid ((.int .u8 (80 + (l[a' + 1].toNat : Int)) : Value) = u8v (80 + l[a' + 1])) := Lib.hid (by
                have : l[a' + 1] = 0 ∨ l[a' + 1] = 1 := by
                  have : l[a' + 1].toNat = 0 ∨ l[a' + 1].toNat = 1 := by omega
                  rcases this with h | h
                  · left; exact UInt8.toNat_inj.1 h
                  · right; exact UInt8.toNat_inj.1 h
                rcases this with h | h <;> rw [h] <;> rfl)
              have hyy : (l[a' + 1].toNat : Int) ≤ 1 := by omega
              clear h80 h81 HErr hbig
              generalize l[a'] = x at *
              generalize l[a' + 1] = y at *
              go_wp2_with fail
              go_quiet (fail)
              go_wp2_with fail
              go_quiet (fail)
              go_wp2_with fail
              go_quiet (fail)
              go_wp2_with fail
              go_quiet (fail)
              go_wp2_with fail
              go_quiet (fail)
              go_upto_region 15 with fail
              have HSUM := Lib.hid hsum.out
              generalize hW : World.setCell _ _ _ = w4
              have hI4 : RdIs W0 w4 g (.slice (some ⟨bb, off, none⟩) l.length cap) l (a' + 2) (.slice po (o ++ m).length capo) (o ++ m) := by
                rw [← hW]
                exact (HIr.out.kept (by repeat (first | exact Keeps.refl _ | refine Keeps.drewN ?_ _))).setA (a' + 2) (by omega)
              have hI5 := hI4.kept ((Keeps.refl _).alloc (.cells #[.int .u8 (80 + (y.toNat : Int))] 5))
              obtain ⟨hd0, hd1, hd2⟩ := hI4.cells
              have HI5 := Lib.hid hI5
              clear hW hI4 hI5 hc0 hc1 hc2 hf0 hf1 hf2 HIr
              go_wp2_with (at_builtin; refine wpList_app1 (base := 0) u8ok rfl _ _ rfl (.slice po (o ++ m).length capo) (.slice (some ⟨w4.heap.size, 0, none⟩) 1 1) ((o ++ m).map u8v) [.int .u8 (80 + (y.toNat : Int))] (by rw [HOM.out]; rfl) rfl HI5.out.own (row_one rfl) (by simp [Value.oneCell']) (by simp; omega) (by omega) (Nat.zero_le _) ?_; intro v' w2 ho2 hg2 hf2; obtain ⟨p2, n2, cap2, rfl⟩ := ho2.sl; have hB2 := HI5.out.blk.grown hg2 HI5.out.ne; have hx2 : w2.cell? ⟨g, 2, none⟩ = some (.slice po (o ++ m).length capo) := by { rw [hB2.cell]; rfl }; have hfz2 : w2.frozen? ⟨g, 2, none⟩ = false := hB2.frozen 2; have HG := Lib.hid (HI5.out.grown (o' := o ++ (m ++ [80 + y])) hg2 (by rw [← List.append_assoc, List.map_append, List.map_singleton, ← HSUM.out]; exact ho2) hf2); clear hB2 ho2 hg2 hf2)
              go_roundg n'
              case rel =>
                have hr := rdN_ok (k := n') HR.out
                rw [List.drop_drop] at hr
                exact ⟨a' + 2, _, m ++ [80 + y], HG.out, by simp; omega, by omega, by rw [HE.out.1, hr], by rw [HE.out.2.1, hr]; simp, by rw [HE.out.2.2, hr]; simp only; omega⟩
              case measure => omega
        · have hx1 : ((l[a'].toNat : Int) != 81) = true := by
            rw [bne_iff_ne]
            intro e
            have h2 : l[a'].toNat ≠ 81 := fun h => h81 (UInt8.toNat_inj.1 h)
            omega
          have HR : Hid (rd (l.drop a') = (0, l[a'], 1)) := Lib.hid (by rw [HD.out]; exact rd_plain h80 h81)
          clear h80 h81 HErr
          generalize l[a'] = x at *
          go_wp2_with fail
          go_quiet (fail)
          go_wp2_with fail
          go_quiet (fail)
          go_upto_region 15 with fail
          generalize hW : World.setCell _ _ _ = w4
          have hI4 : RdIs W0 w4 g (.slice (some ⟨bb, off, none⟩) l.length cap) l (a' + 1) (.slice po (o ++ m).length capo) (o ++ m) := by
            rw [← hW]
            exact (HIr.out.kept (by repeat (first | exact Keeps.refl _ | refine Keeps.drewN ?_ _))).setA (a' + 1) (by omega)
          have hI5 := hI4.kept ((Keeps.refl _).alloc (.cells #[.int .u8 (x.toNat : Int)] 5))
          obtain ⟨hd0, hd1, hd2⟩ := hI4.cells
          have HI5 := Lib.hid hI5
          clear hW hI4 hI5 hc0 hc1 hc2 hf0 hf1 hf2 HIr
          go_wp2_with (at_builtin; refine wpList_app1 (base := 0) u8ok rfl _ _ rfl (.slice po (o ++ m).length capo) (.slice (some ⟨w4.heap.size, 0, none⟩) 1 1) ((o ++ m).map u8v) [.int .u8 (x.toNat : Int)] (by rw [HOM.out]; rfl) rfl HI5.out.own (row_one rfl) (by simp [Value.oneCell']) (by simp; omega) (by omega) (Nat.zero_le _) ?_; intro v' w2 ho2 hg2 hf2; obtain ⟨p2, n2, cap2, rfl⟩ := ho2.sl; have hB2 := HI5.out.blk.grown hg2 HI5.out.ne; have hx2 : w2.cell? ⟨g, 2, none⟩ = some (.slice po (o ++ m).length capo) := by { rw [hB2.cell]; rfl }; have hfz2 : w2.frozen? ⟨g, 2, none⟩ = false := hB2.frozen 2; have HG := Lib.hid (HI5.out.grown (o' := o ++ (m ++ [x])) hg2 (by rw [← List.append_assoc, List.map_append, List.map_singleton, show u8v x = .int .u8 (x.toNat : Int) from rfl]; exact ho2) hf2); clear hB2 ho2 hg2 hf2)
          go_roundg n'
          case rel =>
            have hr := rdN_ok (k := n') HR.out
            rw [List.drop_drop] at hr
            exact ⟨a' + 1, _, m ++ [x], HG.out, by simp; omega, by omega, by rw [HE.out.1, hr], by rw [HE.out.2.1, hr]; simp, by rw [HE.out.2.2, hr]; simp only; omega⟩
          case measure => omega
end Frm
end Go.Proofs.YtchjncnolmiejaaGreat

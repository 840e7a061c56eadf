/- Several texts in one: VdRename, RfPlain. -/
import Derived.Test.YtchjncnolmiejaaGreatK24
/- Disk.Rename, Unlink. -/
namespace Go.Proofs.YtchjncnolmiejaaGreat
open Go.RowKit
namespace Vd
open Go.Maps
theorem give_put_len (l : Nms) (m : Mv) : (giveN l m).length ≤ (dropN l m.node).length + 1 := by
  unfold giveN
  split
  · omega
  · unfold putN
    have := two_lens (fun p : Str × Nat => decide (p.1 < m.name)) (fun p => decide (m.name < p.1)) (apartS m.name) (dropN l m.node)
    simp only [List.length_append, List.length_cons]
    omega
theorem give_len_in {l : Nms} {m : Mv} {x : Str} (h : (x, m.node) ∈ l) : (giveN l m).length ≤ l.length := by
  have h1 := give_put_len l m
  have h2 : (dropN l m.node).length < l.length := List.length_filter_lt_length_iff_exists.2 ⟨_, h, by simp⟩
  omega
set_option maxRecDepth 100000 in
set_option maxHeartbeats 4000000 in
theorem rename_any (w : World) {S : Nat → Prop} {g : Nat} {d : Dsk} (h : DiskAt w S g d) (hn : -1 ≤ d.count ∧ d.count ≤ 9000000000000000000) (x y : Str) (hx : x.length ≤ 9000000000000000000) (hy : y.length ≤ 9000000000000000000) (hml : d.moves.length ≤ 1000000000) : Calls Tryz.prog 106 #[.pointer (some ⟨g, 0, none⟩), .string (bstr x), .string (bstr y)] w fun e w' => DskDid w (More S w w') g (renameD d x y) e w' := by
  have HC := Lib.hid (change_any w h hn)
  have HSE := Lib.hid (changeD_seen d)
  have HX0 : Hid (renameD d x y = if (changeD d).2 ≠ 0 then changeD d
    else if namedB y = false then ((changeD d).1, 3)
    else if (look d.seen x).isSome then (turnD (changeD d).1 ⟨(look d.seen x).getD 0, y, false⟩, 0)
    else ((changeD d).1, 7)) := Lib.hid rfl
  have HBD := Lib.hid hml
  clear h hml
  unfold DskDid at HC ⊢
  generalize changeD d = cd at *
  obtain ⟨d1, er⟩ := cd
  simp only at HSE HX0
  obtain ⟨e1, e2, e3, e4, e5⟩ := HSE.out
  rw [← e1] at HX0
  rw [← e4] at HBD
  clear HSE e1 e2 e3 e4 e5
  go_enter Tryz.func106, Tryz.ntmps106
  go_wp2_with fail
  refine HC.out.mono ?_
  rintro e w1 ⟨rfl, hd, hm⟩
  have HD := Lib.hid (show DiskAt w1 S g d1 from hd)
  have HM := Lib.hid hm
  clear hd hm HC
  by_cases he : er = 0
  · subst he
    have HX1 := Lib.hid (HX0.out.trans (if_neg (by simp)))
    clear HX0
    have HNM := Lib.hid (named_any y (by omega) w1)
    cases hnx : namedB y with
    | false =>
      have HX := Lib.hid (HX1.out.trans (if_pos hnx))
      rw [hnx] at HNM
      clear hnx HX1
      go_wp2_with fail
      refine HNM.out.mono ?_
      rintro e w2 ⟨rfl, rfl⟩
      go_wp2_with fail
      go_ret
      exact ⟨(congrArg (fun r : Dsk × Int => Ending.returned (Value.int .i64 r.2)) HX.out).symm, by rw [HX.out]; exact HD.out.wide (fun y hy => .inl hy), HM.out.mono (fun y hy => .inl hy)⟩
    | true =>
      have HX2 := Lib.hid (HX1.out.trans (if_neg (by simp [hnx])))
      have hy32 := named_32 hnx
      rw [hnx] at HNM
      clear hnx HX1
      have HF := Lib.hid (find_any w1 HD.out x (by unfold maxLen; omega))
      go_wp2_with fail
      refine HNM.out.mono ?_
      rintro e w2 ⟨rfl, rfl⟩
      unfold findE at HF
      cases hlk : look d1.seen x with
      | none =>
        have HX := Lib.hid (HX2.out.trans (if_neg (by rw [hlk]; simp)))
        rw [hlk] at HF
        simp only [Option.getD_none, Option.isSome_none] at HF
        clear hlk HX2
        go_wp2_with fail
        refine HF.out.mono ?_
        rintro e w2 ⟨rfl, rfl⟩
        go_wp2_with fail
        go_ret
        exact ⟨(congrArg (fun r : Dsk × Int => Ending.returned (Value.int .i64 r.2)) HX.out).symm, by rw [HX.out]; exact HD.out.wide (fun y hy => .inl hy), HM.out.mono (fun y hy => .inl hy)⟩
      | some i =>
        have HX : Hid (renameD d x y = (turnD d1 ⟨i, y, false⟩, 0)) := Lib.hid ((HX2.out.trans (if_pos (by rw [hlk]; rfl))).trans (by rw [hlk]; rfl))
        rw [hlk] at HF
        simp only [Option.getD_some, Option.isSome_some] at HF
        have HTN : Hid (Calls Tryz.prog 119 #[.pointer (some ⟨g, 0, none⟩), .agg #[.int .i64 (i : Int), .string (bstr y), .bool false]] w1 fun e w' => e = .returned (.tuple #[]) ∧ DiskAt w' (More S w1 w') g (turnD d1 ⟨i, y, false⟩) ∧ Mods S w1 w') := Lib.hid (by
          obtain ⟨b1, b2, nv, mv, nb, hd⟩ := HD.out
          have hmem := (look_mem hd.seen.asc).1 hlk
          exact turn_any w1 HD.out ⟨i, y, false⟩ hy32 HBD.out (fit_turn hd.fit hy32 (hd.fit.is _ hmem) (Nat.le_trans (give_len_in (m := ⟨i, y, false⟩) hmem) hd.fit.s1)))
        clear hlk HX2
        go_wp2_with fail
        refine HF.out.mono ?_
        rintro e w2 ⟨rfl, rfl⟩
        go_wp2_with fail
        refine HTN.out.mono ?_
        rintro e w2 ⟨rfl, hd2, hm2⟩
        have HD2 := Lib.hid hd2
        have HM2 := Lib.hid hm2
        clear hd2 hm2 HTN
        go_wp2_with fail
        go_ret
        exact ⟨(congrArg (fun r : Dsk × Int => Ending.returned (Value.int .i64 r.2)) HX.out).symm, by rw [HX.out]; exact HD2.out.more HM.out, (HM.out.trans HM2.out (fun y hy _ => hy)).mono (fun y hy => .inl hy)⟩
  · have HX := Lib.hid (HX0.out.trans (if_pos he))
    have he' : (er != 0) = true := by simp [he]
    clear he
    go_wp2_with fail
    go_ret
    exact ⟨(congrArg (fun r : Dsk × Int => Ending.returned (Value.int .i64 r.2)) HX.out).symm, by rw [HX.out]; exact HD.out.wide (fun y hy => .inl hy), HM.out.mono (fun y hy => .inl hy)⟩

set_option maxRecDepth 100000 in
set_option maxHeartbeats 4000000 in
theorem unlink_any (w : World) {S : Nat → Prop} {g : Nat} {d : Dsk} (h : DiskAt w S g d) (hn : -1 ≤ d.count ∧ d.count ≤ 9000000000000000000) (x : Str) (hx : x.length ≤ maxLen) (hml : d.moves.length ≤ 1000000000) : Calls Tryz.prog 102 #[.pointer (some ⟨g, 0, none⟩), .string (bstr x)] w fun e w' => DskDid w (More S w w') g (unlinkD d x) e w' := by
  have HT := Lib.hid (touch_any w h hn x hx)
  have HIN : Hid ((touchD d x).2.2 = 0 → (touchD d x).2.1 < (touchD d x).1.nodes.length ∧ (x, (touchD d x).2.1) ∈ (touchD d x).1.seen) := Lib.hid (fun hh => by
    obtain ⟨b1, b2, nv, mv, nb, h⟩ := h
    exact touch_seen h.fit h.seen.asc hh)
  have HML : Hid ((touchD d x).1.moves.length ≤ 1000000000) := Lib.hid (by rw [(touch_nodes d x).2]; exact hml)
  have HX0 : Hid (unlinkD d x = if (touchD d x).2.2 ≠ 0 then ((touchD d x).1, (touchD d x).2.2)
    else (turnD (touchD d x).1 ⟨(touchD d x).2.1, [], false⟩, 0)) := Lib.hid rfl
  clear h hml
  unfold TouchDid at HT
  unfold DskDid
  generalize touchD d x = td at *
  obtain ⟨d1, i, er⟩ := td
  go_enter Tryz.func102, Tryz.ntmps102
  go_wp2_with fail
  refine HT.out.mono ?_
  rintro e w1 ⟨rfl, hd, hm⟩
  have HD := Lib.hid (show DiskAt w1 S g d1 from hd)
  have HM := Lib.hid hm
  clear hd hm HT
  by_cases he : er = 0
  · subst he
    obtain ⟨hin, hse⟩ := HIN.out rfl
    have HX := Lib.hid (HX0.out.trans (if_neg (by simp)))
    have HTN : Hid (Calls Tryz.prog 119 #[.pointer (some ⟨g, 0, none⟩), .agg #[.int .i64 (i : Int), .string (bstr []), .bool false]] w1 fun e w' => e = .returned (.tuple #[]) ∧ DiskAt w' (More S w1 w') g (turnD d1 ⟨i, [], false⟩) ∧ Mods S w1 w') := Lib.hid (by
      obtain ⟨b1, b2, nv, mv, nb, hd⟩ := HD.out
      exact turn_any w1 HD.out ⟨i, [], false⟩ (by simp) HML.out (fit_turn hd.fit (by simp) hin (Nat.le_trans (give_len_in (m := ⟨i, [], false⟩) hse) hd.fit.s1)))
    clear hin hse HIN HX0
    go_wp2_with fail
    refine HTN.out.mono ?_
    rintro e w2 ⟨rfl, hd2, hm2⟩
    have HD2 := Lib.hid hd2
    have HM2 := Lib.hid hm2
    clear hd2 hm2 HTN
    go_wp2_with fail
    go_ret
    exact ⟨(congrArg (fun r : Dsk × Int => Ending.returned (Value.int .i64 r.2)) HX.out).symm, by rw [HX.out]; exact HD2.out.more HM.out, (HM.out.trans HM2.out (fun y hy _ => hy)).mono (fun y hy => .inl hy)⟩
  · have HX := Lib.hid (HX0.out.trans (if_pos he))
    have he' : (er == 0) = false := by simp [he]
    clear he
    go_wp2_with fail
    go_ret
    exact ⟨(congrArg (fun r : Dsk × Int => Ending.returned (Value.int .i64 r.2)) HX.out).symm, by rw [HX.out]; exact HD.out.wide (fun y hy => .inl hy), HM.out.mono (fun y hy => .inl hy)⟩
end Vd
end Go.Proofs.YtchjncnolmiejaaGreat

/- The document's disk, plain: lists of files, names, turns and writes. -/
namespace Go.Proofs.YtchjncnolmiejaaGreat
open Go.RowKit
namespace Vd
structure RFil where
  now : Str
  sure : Str
  waits : List Pat
structure RTurn where
  frm : Str
  dst : Str
  file : Int
structure RDsk where
  files : List RFil
  now : Nms
  sure : Nms
  waits : List RTurn
  cap : Int
  down : Bool
  calls : Int
  fail : Int
  crash : Int
  err : Int
def withoutL (l : Nms) (x : Str) : Nms := l.filter fun p => decide (p.1 ≠ x)
def doR (l : Nms) (t : RTurn) : Nms :=
  if t.file < 0 then
    match look l t.frm with
    | none => l
    | some f => if t.dst = [] then withoutL l t.frm else putN (withoutL l t.frm) t.dst f
  else if t.dst = [] then l else putN l t.dst t.file.toNat
def tickR (n : Int) : Int := if 0 ≤ n then n - 1 else n
def beginR (m : RDsk) : RDsk × Int :=
  if m.down then (m, 11)
  else if m.crash = 0 then ({ m with calls := m.calls + 1, crash := tickR m.crash, fail := tickR m.fail, down := true }, 11)
  else if m.fail = 0 then ({ m with calls := m.calls + 1, crash := tickR m.crash, fail := tickR m.fail }, m.err)
  else ({ m with calls := m.calls + 1, crash := tickR m.crash, fail := tickR m.fail }, 0)
def turnR (m : RDsk) (t : RTurn) : RDsk := { m with waits := m.waits ++ [t], now := doR m.now t }
def filR0 : RFil := ⟨[], [], []⟩
def filAt (m : RDsk) (i : Nat) : RFil := m.files.getD i filR0
def bytesR (files : List RFil) (l : Nms) : Nat := (l.map fun p => ((files[p.2]?).map (·.now.length)).getD 0).sum
def usedR (m : RDsk) : Nat := bytesR m.files m.now
def createR (m : RDsk) (x : Str) : RDsk × Int :=
  if (beginR m).2 ≠ 0 then beginR m
  else if namedB x = false then ((beginR m).1, 3)
  else if (look m.now x).isSome then ((beginR m).1, 8)
  else if m.now.length = 1024 then ((beginR m).1, 6)
  else (turnR { (beginR m).1 with files := m.files ++ [filR0] } ⟨[], x, m.files.length⟩, 0)
def wroteR (f : RFil) (p : Pat) : RFil := ⟨overL f.now p.place p.b, f.sure, f.waits ++ [p]⟩
def writeR (m : RDsk) (i : Nat) (p : Pat) : RDsk × Int :=
  if m.cap - (usedR m : Int) < max 0 ((p.place : Int) + (p.b.length : Int) - ((filAt m i).now.length : Int)) then (m, 10)
  else ({ m with files := m.files.set i (wroteR (filAt m i) p) }, 0)
def appendR (m : RDsk) (x b : Str) : RDsk × Int :=
  if (beginR m).2 ≠ 0 then beginR m
  else match look m.now x with
  | none => ((beginR m).1, 7)
  | some i => writeR (beginR m).1 i ⟨(filAt m i).now.length, b⟩
def pwriteR (m : RDsk) (x : Str) (a : Int) (b : Str) : RDsk × Int :=
  if (beginR m).2 ≠ 0 then beginR m
  else match look m.now x with
  | none => ((beginR m).1, 7)
  | some i => if a < 0 ∨ ((filAt m i).now.length : Int) < a then ((beginR m).1, 1) else writeR (beginR m).1 i ⟨a.toNat, b⟩
def syncR (m : RDsk) (x : Str) : RDsk × Int :=
  if (beginR m).2 ≠ 0 then beginR m
  else match look m.now x with
  | none => ((beginR m).1, 7)
  | some i => ({ (beginR m).1 with files := m.files.set i ⟨(filAt m i).now, (filAt m i).now, []⟩ }, 0)
def renameR (m : RDsk) (x y : Str) : RDsk × Int :=
  if (beginR m).2 ≠ 0 then beginR m
  else if namedB y = false then ((beginR m).1, 3)
  else if (look m.now x).isSome then (turnR (beginR m).1 ⟨x, y, -1⟩, 0)
  else ((beginR m).1, 7)
def unlinkR (m : RDsk) (x : Str) : RDsk × Int :=
  if (beginR m).2 ≠ 0 then beginR m
  else if (look m.now x).isSome then (turnR (beginR m).1 ⟨x, [], -1⟩, 0)
  else ((beginR m).1, 7)
def syncDirR (m : RDsk) : RDsk × Int := if (beginR m).2 ≠ 0 then beginR m else ({ (beginR m).1 with sure := m.now, waits := [] }, 0)
def knownR (m : RDsk) (i : Nat) : Bool := m.now.any (fun p => decide (p.2 = i)) || m.sure.any (fun p => decide (p.2 = i)) || m.waits.any (fun t => decide (t.file = (i : Int)))
def writesR (m : RDsk) : Nat := (((List.range m.files.length).filter (knownR m)).map fun i => (filAt m i).waits.length).sum
/-- what a file's writes become, and how many of the kept numbers are used -/
def bootW (keep : List Int) : List Pat → Nat → Str → Nat × Str
  | [], n, s => (n, s)
  | p :: ps, n, s => bootW keep ps (n + 1) (if min (max (keep.getD n 0) 0) (p.b.length : Int) = 0 then s else overL s p.place (p.b.take (min (max (keep.getD n 0) 0) (p.b.length : Int)).toNat))
def bootF (m : RDsk) (keep : List Int) : Nat → Nat → List RFil × Nat
  | 0, n => ([], n)
  | i + 1, n =>
    let r := bootF m keep i n
    let q := if knownR m i then bootW keep (filAt m i).waits r.2 (filAt m i).sure else (r.2, (filAt m i).sure)
    (r.1 ++ [⟨q.2, q.2, []⟩], q.1)
def bootR (m : RDsk) (turns : Int) (keep : List Int) : RDsk × Int :=
  if m.down = false then (m, 13)
  else ({ m with files := (bootF m keep m.files.length 0).1, now := (m.waits.take turns.toNat).foldl doR m.sure, sure := (m.waits.take turns.toNat).foldl doR m.sure, waits := [], down := false, fail := -1, crash := -1 }, 0)
end Vd
end Go.Proofs.YtchjncnolmiejaaGreat

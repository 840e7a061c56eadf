/- What the document tells of octet: awake. -/
import Derived.Test.YtfmjlgkbohidjaaOctetText
namespace Go.Proofs.Ytfmjlgkbohidjaa
open Go.RowKit
namespace Oct

theorem str_at {w : World} {v : Value} {l : List UInt8} (h : Row w v (l.map u8v)) : (convert 22 9 v).run Try.prog w = .ok (.string (bstr l)) w := h.str Try.underlying22 Try.underlying5 str9

theorem put258 : putB 258 2 = true ∧ putL 258 2 = [1, 2] := by decide
theorem sgn255 : sgnV 255 1 = -1 ∧ putB 255 1 = true := by decide
theorem turn258 : turnV 258 2 = 513 := by decide
theorem textA : textL ⟨#[97]⟩ = [0, 0, 0, 1, 97] := by decide
theorem tA1 : tE [0, 0, 0, 1, 97] 0 0 1 = 0 ∧ tA [0, 0, 0, 1, 97] 0 0 1 = 5 ∧ tL [0, 0, 0, 1, 97] 0 0 1 = [97] := by decide
theorem done5 : doneE 0 5 5 = 0 := by decide

set_option maxRecDepth 100000 in
set_option maxHeartbeats 1000000 in
theorem awake_any (w : World) : Calls Try.prog 15 #[] w fun e w' => e = .returned (.bool true) ∧ Keeps w w' := by
  have C1 := Lib.hid (fun w => put_any 258 (by omega) 2 w)
  have C2 := Lib.hid (fun w => signed_any 255 (by omega) 1 w)
  have C3 := Lib.hid (fun w => turn_any 258 (by omega) 2 w)
  rw [put258.1, put258.2] at C1
  rw [sgn255.1, sgn255.2] at C2
  rw [turn258, put258.1] at C3
  have bt := bstr_toList
  go_enter Try.func15, Try.ntmps15
  go_wp2_with fail
  refine (C1.out _).mono ?_
  rintro e w1 ⟨b, rfl, hown1, hK1⟩
  go_wp2_with fail
  refine (C2.out _).mono ?_
  rintro e w2 ⟨rfl, rfl⟩
  go_wp2_with fail
  refine (C3.out _).mono ?_
  rintro e w2 ⟨rfl, rfl⟩
  go_wp2_with fail
  refine (newSink_any _).mono ?_
  rintro e w2 ⟨g, rfl, hg, hS2, hK2⟩
  have hst := str_at (l := [1, 2]) (hown1.keeps hK2).row
  clear hown1
  have hsz1 := hK1.size
  have HK2 := Lib.hid (hK1.trans hK2)
  have C4 := Lib.hid (sinkText_any g _ [] ⟨#[97]⟩ w2 hS2 (by decide))
  rw [textA, List.nil_append] at C4
  clear hS2 hK2 hK1
  go_wp2_with fail
  refine C4.out.mono ?_
  rintro e w3 ⟨v3, rfl, hS3, hM3, hF3⟩
  have HK3 := Lib.hid (hM3.keeps HK2.out (fun x hx => hx.elim (fun e => by omega) (fun e => by simp [Value.ownBlock] at e)))
  have C5 := Lib.hid (sinkBytes_any g v3 _ w3 hS3 (by decide))
  clear hM3 hst
  go_wp2_with fail
  refine C5.out.mono ?_
  rintro e w4 ⟨b4, rfl, hown4, hK4⟩
  have C6 := Lib.hid (newSource_any b4 _ w4 hown4.row (by decide))
  clear hown4
  go_wp2_with fail
  refine C6.out.mono ?_
  rintro e w5 ⟨g5, v5, rfl, hg5, hS5, hb5, hK5⟩
  have C7 := Lib.hid (sinkBytes_any g v3 _ w5 ((hS3.keeps hK4).keeps hK5) (by decide))
  clear hS3
  go_wp2_with fail
  refine C7.out.mono ?_
  rintro e w6 ⟨b6, rfl, hown6, hK6⟩
  have hst6 := str_at (l := [0, 0, 0, 1, 97]) hown6.row
  have C8 := Lib.hid (srcText_any g5 v5 _ 0 0 1 w6 (hS5.keeps hK6) (by omega) (by omega))
  rw [tA1.1, tA1.2.1, tA1.2.2] at C8
  have HK6 := Lib.hid (((HK3.out.trans hK4).trans hK5).trans hK6)
  have hsz := HK3.out.size
  have hsz4 := hK4.size
  clear hown6 hS5 hK6 hK5 hK4
  go_wp2_with fail
  refine C8.out.mono ?_
  rintro e w7 ⟨rfl, hS7, hM7⟩
  have HK7 := Lib.hid (hM7.keeps HK6.out (fun x hx => by subst hx; omega))
  have C9 := Lib.hid (done_any g5 v5 _ 5 0 w7 hS7)
  rw [show doneE 0 5 ([0, 0, 0, 1, 97] : List UInt8).length = 0 from done5] at C9
  clear hS7 hM7 hst6
  go_wp2_with fail
  refine C9.out.mono ?_
  rintro e w8 ⟨rfl, hK8⟩
  go_wp2_with fail
  go_ret
  exact ⟨rfl, HK7.out.trans hK8⟩
end Oct
end Go.Proofs.Ytfmjlgkbohidjaa

/- Several texts in one: VdAt, VdAwake, VdReads, VdSwPlain, VdSwaps, VdOn, SfAgain, SfSmall. -/
import Derived.Test.YtchjncnolmiejaaVdNew
/- The laws' side of the contracts: how much of everything there is at most; what a call leaves. -/
namespace Go.Proofs.Ytchjncnolmiejaa
open Go.RowKit
namespace Vd
open Go.Maps
/-- of all there is not more than so many -/
structure Few (d : Dsk) (k : Nat) : Prop where
  c0 : 0 ≤ d.count
  c1 : d.count ≤ k
  m : d.moves.length ≤ k
  n : d.nodes.length ≤ k
  p : ∀ y ∈ d.nodes, y.pats.length ≤ k
  s : d.seen.length ≤ k
  u : d.sure.length ≤ k
theorem Few.mono {d : Dsk} {k k' : Nat} (h : Few d k) (hk : k ≤ k') : Few d k' := ⟨h.c0, by have := h.c1; omega, Nat.le_trans h.m hk, Nat.le_trans h.n hk, fun y hy => Nat.le_trans (h.p y hy) hk, Nat.le_trans h.s hk, Nat.le_trans h.u hk⟩
theorem changeD_count (d : Dsk) : (changeD d).1.count = d.count ∨ (changeD d).1.count = d.count + 1 := by
  unfold changeD
  split
  · exact .inl rfl
  · split
    · exact .inr rfl
    · split
      · exact .inr rfl
      · exact .inr rfl
theorem few_change {d : Dsk} {k : Nat} (h : Few d k) : Few (changeD d).1 (k + 1) := by
  obtain ⟨e1, e2, e3, e4, -⟩ := changeD_seen d
  have hc := changeD_count d
  have h0 := h.c0
  have h1 := h.c1
  exact ⟨by omega, by omega, by rw [e4]; exact Nat.le_succ_of_le h.m, by rw [e2]; exact Nat.le_succ_of_le h.n, fun y hy => Nat.le_succ_of_le (h.p y (by rwa [e2] at hy)), by rw [e1]; exact Nat.le_succ_of_le h.s, by rw [e3]; exact Nat.le_succ_of_le h.u⟩
theorem few_touch {d : Dsk} {k : Nat} (h : Few d k) (x : Str) : Few (touchD d x).1 (k + 1) := by rw [touch_fst]; exact few_change h
theorem few_turn {d : Dsk} {k : Nat} (h : Few d k) (m : Mv) : Few (turnD (changeD d).1 m) (k + 1) := by
  obtain ⟨e1, e2, e3, e4, -⟩ := changeD_seen d
  have hf := few_change h
  have hl := give_len (changeD d).1.seen m
  exact ⟨hf.c0, hf.c1, by rw [turnD_len, e4]; exact Nat.succ_le_succ h.m, hf.n, hf.p, by
    show (giveN (changeD d).1.seen m).length ≤ _
    rw [e1] at hl ⊢
    have := h.s
    omega, hf.u⟩
theorem few_create {d : Dsk} {k : Nat} (h : Few d k) (x : Str) : Few (createD d x).1 (k + 1) := by
  unfold createD
  split
  · exact few_change h
  · split
    · exact few_change h
    · split
      · exact few_change h
      · split
        · exact few_change h
        · have hf := few_turn h ⟨d.nodes.length, x, true⟩
          obtain ⟨e1, e2, e3, e4, -⟩ := changeD_seen d
          exact ⟨hf.c0, hf.c1, hf.m, by
            show ((changeD d).1.nodes ++ [newN]).length ≤ _
            rw [e2]
            simpa using h.n, fun y hy => by
            have hy : y ∈ (changeD d).1.nodes ++ [newN] := hy
            rw [e2] at hy
            rcases List.mem_append.1 hy with hy | hy
            · exact Nat.le_succ_of_le (h.p y hy)
            · simp at hy
              subst hy
              exact Nat.zero_le _, hf.s, hf.u⟩
theorem nodD_mem (d : Dsk) (i : Nat) : nodD d i ∈ d.nodes ∨ nodD d i = zeroN := by
  unfold nodD
  rw [List.getD_eq_getElem?_getD]
  cases h : d.nodes[i]? with
  | none => exact .inr rfl
  | some x => exact .inl (List.mem_of_getElem? h)
theorem few_write {d1 : Dsk} {k : Nat} (hf : Few d1 (k + 1)) (hp : ∀ y ∈ d1.nodes, y.pats.length ≤ k) (i : Nat) (p : Pat) : Few (writeD d1 i p).1 (k + 1) := by
  unfold writeD
  split
  · exact hf
  · refine ⟨hf.c0, hf.c1, hf.m, by simpa [putD] using hf.n, fun y hy => ?_, hf.s, hf.u⟩
    rcases List.mem_or_eq_of_mem_set hy with hy | rfl
    · exact hf.p y hy
    · have : (nodD d1 i).pats.length ≤ k := by
        rcases nodD_mem d1 i with h | h
        · exact hp _ h
        · rw [h]; exact Nat.zero_le _
      simpa [wroteN] using this
theorem touch_pats {d : Dsk} {k : Nat} (h : Few d k) (x : Str) : ∀ y ∈ (touchD d x).1.nodes, y.pats.length ≤ k := by rw [(touch_nodes d x).1]; exact h.p
theorem few_append {d : Dsk} {k : Nat} (h : Few d k) (x b : Str) : Few (appendD d x b).1 (k + 1) := by
  unfold appendD
  split
  · exact few_touch h x
  · exact few_write (few_touch h x) (touch_pats h x) _ _
theorem few_pwrite {d : Dsk} {k : Nat} (h : Few d k) (x : Str) (a : Int) (b : Str) : Few (pwriteD d x a b).1 (k + 1) := by
  unfold pwriteD
  split
  · exact few_touch h x
  · split
    · exact few_touch h x
    · exact few_write (few_touch h x) (touch_pats h x) _ _
theorem few_sync {d : Dsk} {k : Nat} (h : Few d k) (x : Str) : Few (syncD d x).1 (k + 1) := by
  unfold syncD
  split
  · exact few_touch h x
  · have hf := few_touch h x
    refine ⟨hf.c0, hf.c1, hf.m, by simpa using hf.n, fun y hy => ?_, hf.s, hf.u⟩
    rcases List.mem_or_eq_of_mem_set hy with hy | rfl
    · exact hf.p y hy
    · exact Nat.zero_le _
theorem few_rename {d : Dsk} {k : Nat} (h : Few d k) (x y : Str) : Few (renameD d x y).1 (k + 1) := by
  unfold renameD
  split
  · exact few_change h
  · split
    · exact few_change h
    · split
      · exact few_turn h _
      · exact few_change h
theorem few_unlink {d : Dsk} {k : Nat} (h : Few d k) (x : Str) : Few (unlinkD d x).1 (k + 1) := by
  unfold unlinkD
  split
  · exact few_touch h x
  · rw [touch_fst]
    exact few_turn h _
theorem few_fix {d : Dsk} {k : Nat} (h : Few d k) : Few (fixD d) k :=
  ⟨h.c0, h.c1, Nat.zero_le _, by simpa [fixD] using h.n, fun y hy => by
    obtain ⟨z, hz, rfl⟩ := List.mem_map.1 hy
    exact h.p z hz, h.s, h.s⟩
theorem few_syncDir {d : Dsk} {k : Nat} (h : Few d k) : Few (syncDirD d).1 (k + 1) := by
  unfold syncDirD
  split
  · exact few_change h
  · exact few_fix (few_change h)
theorem bootIx_pats {k : Nat} : ∀ (L : List Nat) (ns : List Nod) (ks : List Int), (∀ y ∈ ns, y.pats.length ≤ k) → ∀ y ∈ (bootIx L ns ks).1, y.pats.length ≤ k
  | [], _, _, h => h
  | i :: L, ns, ks, h => by
    rw [bootIx_cons]
    refine bootIx_pats L _ _ (fun y hy => ?_)
    rcases List.mem_or_eq_of_mem_set hy with hy | rfl
    · exact h y hy
    · exact Nat.zero_le _
theorem gave_few {d : Dsk} {k : Nat} (h : Few d k) (j : Nat) : (gaveN d j).length ≤ 2 * k := by
  have h1 := h.m
  have h2 := h.u
  by_cases hj : j ≤ d.moves.length
  · have := gave_len d j
    omega
  · rw [gaveN_all (by omega)]
    have := gave_len d d.moves.length
    omega
theorem few_boot {d : Dsk} {k : Nat} (h : Few d k) (t : Int) (ks : List Int) : Few (bootD d t ks).1 (2 * k) := by
  unfold bootD
  split
  · exact h.mono (by omega)
  · have hg := gave_few h t.toNat
    have hh : Few { d with nodes := (bootIx (knownL d) d.nodes ks).1, seen := (d.moves.take t.toNat).foldl giveN d.sure } (2 * k) :=
      ⟨h.c0, by have := h.c1; show d.count ≤ _; omega, Nat.le_trans h.m (by omega), by
        show (bootIx (knownL d) d.nodes ks).1.length ≤ _
        rw [bootIx_len]
        exact Nat.le_trans h.n (by omega), fun y hy => Nat.le_trans (bootIx_pats _ _ _ h.p y hy) (by omega), hg, Nat.le_trans h.u (by omega)⟩
    have hf := few_fix hh
    exact ⟨hf.c0, hf.c1, hf.m, hf.n, hf.p, hf.s, hf.u⟩
/-- the blocks from one on -/
def Rng (B : Nat) (w : World) (y : Nat) : Prop := B ≤ y ∧ y < w.heap.size
/-- a disk that was made behind W, with the bounds that the contracts want -/
structure At (W w : World) (g : Nat) (d : Dsk) (k : Nat) : Prop where
  dsk : DiskAt w (Rng W.heap.size w) g d
  keep : Keeps W w
  few : Few d k
theorem DiskAt.tight {w : World} {S : Nat → Prop} {g : Nat} {d : Dsk} (h : DiskAt w S g d) : DiskAt w (fun y => S y ∧ y < w.heap.size) g d := let ⟨_, _, _, _, _, h⟩ := h; ⟨_, _, _, _, _, h.tight⟩
section
variable {W w w1 w' : World} {g : Nat} {d : Dsk} {k : Nat}
theorem At.keeps (h : At W w g d k) (hk : Keeps w w') : At W w' g d k := ⟨(h.dsk.keeps hk).wide (fun y hy => ⟨hy.1, Nat.lt_of_lt_of_le hy.2 hk.size⟩), h.keep.trans hk, h.few⟩
theorem At.did (h : At W w g d k) (hk : Keeps w w1) {r : Dsk × Int} {e : Ending} (hd : DskDid w1 (More (Rng W.heap.size w) w1 w') g r e w') {k' : Nat} (hf : Few r.1 k') : e = .returned (.int .i64 r.2) ∧ At W w' g r.1 k' := by
  obtain ⟨h1, h2, h3⟩ := hd
  have hs := h3.size
  have hs1 := hk.size
  have hs0 := h.keep.size
  refine ⟨h1, h2.wide (fun y hy => ?_), h3.keeps (h.keep.trans hk) (fun y hy => ?_), hf⟩
  · rcases hy with hy | hy
    · exact ⟨hy.1, by have := hy.2; omega⟩
    · exact ⟨by omega, hy.2⟩
  · rcases hy with hy | hy
    · exact hy.1
    · omega
theorem At.did0 (h : At W w g d k) {d' : Dsk} (hd : DiskAt w' (Rng W.heap.size w) g d') (hm : Mods (Rng W.heap.size w) w w') {k' : Nat} (hf : Few d' k') : At W w' g d' k' :=
  ⟨hd.wide (fun y hy => ⟨hy.1, Nat.lt_of_lt_of_le hy.2 hm.size⟩), hm.keeps h.keep (fun y hy => hy.1), hf⟩
theorem At.arg (h : At W w g d k) (hk : Keeps w w1) {v : Value} {l : List Value} (hr : Row W v l) : ∀ w', Mods (Rng W.heap.size w) w1 w' → Row w' v l := fun _ hm => hr.keeps (hm.keeps (h.keep.trans hk) (fun y hy => hy.1))
theorem At.cnt (h : At W w g d k) (hk : k ≤ 400) : -1 ≤ d.count ∧ d.count ≤ 9000000000000000000 := by
  have h0 := h.few.c0
  have h1 := h.few.c1
  omega
theorem create_at (h : At W w g d k) (hk : k ≤ 400) (x : Str) (hx : x.length ≤ 9000000000000000000) : Calls Try.prog 14 #[.pointer (some ⟨g, 0, none⟩), .string (bstr x)] w fun e w' => e = .returned (.int .i64 (createD d x).2) ∧ At W w' g (createD d x).1 (k + 1) :=
  (create_any w h.dsk (h.cnt hk) x hx (by have := h.few.m; omega) (by have := h.few.n; omega)).mono (fun e w' hd => h.did (Keeps.refl _) hd (few_create h.few x))
theorem append_at (h : At W w g d k) (hk : k ≤ 400) (kw : Keeps w w1) (x : Str) (hx : x.length ≤ maxLen) {bv : Value} {b : Str} (hb : ∀ w', Mods (Rng W.heap.size w) w1 w' → Row w' bv (b.map u8v)) (hbl : b.length ≤ 1000000000) : Calls Try.prog 15 #[.pointer (some ⟨g, 0, none⟩), .string (bstr x), bv] w1 fun e w' => e = .returned (.int .i64 (appendD d x b).2) ∧ At W w' g (appendD d x b).1 (k + 1) :=
  (append_any w1 (h.dsk.keeps kw) (h.cnt hk) x hx hb hbl (fun y hy => by have := h.few.p y hy; omega)).mono (fun e w' hd => h.did kw hd (few_append h.few x b))
theorem sync_at (h : At W w g d k) (hk : k ≤ 400) (x : Str) (hx : x.length ≤ maxLen) : Calls Try.prog 16 #[.pointer (some ⟨g, 0, none⟩), .string (bstr x)] w fun e w' => e = .returned (.int .i64 (syncD d x).2) ∧ At W w' g (syncD d x).1 (k + 1) :=
  (sync_any w h.dsk (h.cnt hk) x hx).mono (fun e w' hd => h.did (Keeps.refl _) hd (few_sync h.few x))
theorem rename_at (h : At W w g d k) (hk : k ≤ 400) (x y : Str) (hx : x.length ≤ 9000000000000000000) (hy : y.length ≤ 9000000000000000000) : Calls Try.prog 59 #[.pointer (some ⟨g, 0, none⟩), .string (bstr x), .string (bstr y)] w fun e w' => e = .returned (.int .i64 (renameD d x y).2) ∧ At W w' g (renameD d x y).1 (k + 1) :=
  (rename_any w h.dsk (h.cnt hk) x y hx hy (by have := h.few.m; omega)).mono (fun e w' hd => h.did (Keeps.refl _) hd (few_rename h.few x y))
theorem unlink_at (h : At W w g d k) (hk : k ≤ 400) (x : Str) (hx : x.length ≤ maxLen) : Calls Try.prog 61 #[.pointer (some ⟨g, 0, none⟩), .string (bstr x)] w fun e w' => e = .returned (.int .i64 (unlinkD d x).2) ∧ At W w' g (unlinkD d x).1 (k + 1) :=
  (unlink_any w h.dsk (h.cnt hk) x hx (by have := h.few.m; omega)).mono (fun e w' hd => h.did (Keeps.refl _) hd (few_unlink h.few x))
theorem syncDir_at (h : At W w g d k) (hk : k ≤ 400) : Calls Try.prog 17 #[.pointer (some ⟨g, 0, none⟩)] w fun e w' => e = .returned (.int .i64 (syncDirD d).2) ∧ At W w' g (syncDirD d).1 (k + 1) :=
  (syncDir_any w h.dsk (h.cnt hk) (by have := h.few.n; omega)).mono (fun e w' hd => h.did (Keeps.refl _) hd (few_syncDir h.few))
theorem boot_at (h : At W w g d k) (hk : k ≤ 400) (t : Int) (ht : (Lit.int .i64 t).wf = true) {kv : Value} {keep : List Int} (hr : ∀ w', Mods (Rng W.heap.size w) w w' → Row w' kv (keep.map (Value.int .i64))) : Calls Try.prog 22 #[.pointer (some ⟨g, 0, none⟩), .int .i64 t, kv] w fun e w' => e = .returned (.int .i64 (bootD d t keep).2) ∧ At W w' g (bootD d t keep).1 (2 * k) :=
  (boot_any w h.dsk t ht hr (fun j => by have := gave_few h.few j; omega) (by have := h.few.n; omega) (by have := h.few.m; omega)).mono (fun e w' hd => h.did (Keeps.refl _) hd (few_boot h.few t keep))
theorem crash_at (h : At W w g d k) (n : Int) : Calls Try.prog 20 #[.pointer (some ⟨g, 0, none⟩), .int .i64 n] w fun e w' => e = .returned (.tuple #[]) ∧ At W w' g { d with crash := setT n 11 } k :=
  (crash_any w h.dsk n).mono (fun e w' hd => ⟨hd.1, h.did0 hd.2.1 hd.2.2 ⟨h.few.c0, h.few.c1, h.few.m, h.few.n, h.few.p, h.few.s, h.few.u⟩⟩)
theorem fail_at (h : At W w g d k) (n er : Int) : Calls Try.prog 64 #[.pointer (some ⟨g, 0, none⟩), .int .i64 n, .int .i64 er] w fun e w' => e = .returned (.tuple #[]) ∧ At W w' g { d with fail := failT n er } k :=
  (fail_any w h.dsk n er).mono (fun e w' hd => ⟨hd.1, h.did0 hd.2.1 hd.2.2 ⟨h.few.c0, h.few.c1, h.few.m, h.few.n, h.few.p, h.few.s, h.few.u⟩⟩)
theorem read_at (h : At W w g d k) (x : Str) (hx : x.length ≤ maxLen) : Calls Try.prog 23 #[.pointer (some ⟨g, 0, none⟩), .string (bstr x)] w (ReadDid w (textD d x)) := read_any w h.dsk x hx
theorem down_at (h : At W w g d k) : Calls Try.prog 21 #[.pointer (some ⟨g, 0, none⟩)] w fun e w' => e = .returned (.bool d.off) ∧ w = w' := down_any w h.dsk
/-- what New answers, behind W -/
def NewAt (W : World) (r : Option Dsk) (e : Ending) (w' : World) : Prop := Keeps W w' ∧ match r with
  | none => e = .returned (.pointer none)
  | some d => ∃ g, e = .returned (.pointer (some ⟨g, 0, none⟩)) ∧ DiskAt w' (Rng W.heap.size w') g d
theorem new_at (hk : Keeps W w) (v : Value) (fs : List FileX) (h : RowS w 2 v fs.length (fs.flatMap fileC)) (hok : ∀ f ∈ fs, FileOk w f) (cap : Int) : Calls Try.prog 13 #[v, .int .i64 cap] w (NewAt W (newD fs cap)) :=
  (new_any w v fs h hok cap).mono (fun e w' hd => by
    unfold NewDid at hd
    unfold NewAt
    refine ⟨hk.trans hd.1, ?_⟩
    cases hr : newD fs cap with
    | none => rw [hr] at hd; exact hd.2
    | some d =>
      rw [hr] at hd
      obtain ⟨g, h1, h2⟩ := hd.2
      exact ⟨g, h1, h2.tight.wide (fun y hy => ⟨Nat.le_trans hk.size hy.1, hy.2⟩)⟩)
end
end Vd
end Go.Proofs.Ytchjncnolmiejaa

/- law04's awake. -/
namespace Go.Proofs.Ytchjncnolmiejaa
open Go.RowKit
namespace Vd
open Go.Maps
def aw0 : Dsk := ⟨100, [], [], [], [], false, 0, (-1, 0), (-1, 0)⟩
def nA : Str := [97]
def aw1 : Dsk := (createD aw0 nA).1
def aw2 : Dsk := (appendD aw1 nA [120, 121, 122]).1
def aw3 : Dsk := (syncD aw2 nA).1
def aw4 : Dsk := { aw3 with crash := setT 0 11 }
def aw5 : Dsk := (syncDirD aw4).1
def aw6 (t : Int) : Dsk := (bootD aw5 t []).1
theorem aw0_new : newD [] 100 = some aw0 := by kernel_rfl
theorem aw0_few : Few aw0 0 := ⟨by decide, by decide, by decide, by decide, by intro y hy; exact absurd hy (List.not_mem_nil), by decide, by decide⟩
theorem aw1_e : (createD aw0 nA).2 = 0 := by kernel_rfl
theorem aw2_e : (appendD aw1 nA [120, 121, 122]).2 = 0 := by kernel_rfl
theorem aw3_e : (syncD aw2 nA).2 = 0 := by kernel_rfl
theorem aw5_e : (syncDirD aw4).2 = 11 := by kernel_rfl
theorem aw5_off : aw5.off = true := by kernel_rfl
theorem aw6_e (t : Int) : (bootD aw5 t []).2 = 0 := by unfold bootD; rw [aw5_off]; rfl
theorem aw6_0 : textD (aw6 0) nA = ([], 7) := by kernel_rfl
theorem aw6_1 : textD (aw6 1) nA = ([120, 121, 122], 0) := by kernel_rfl
theorem wf64 {x : Int} (h : -9223372036854775808 ≤ x ∧ x ≤ 9223372036854775807) : (Lit.int .i64 x).wf = true := by simpa [Lit.wf, IntKind.min, IntKind.max, IntKind.signed, IntKind.bits] using h
theorem rowS_none (w : World) : RowS w 2 (.slice none 0 0) ([] : List FileX).length ([].flatMap fileC) := ⟨rfl, .inl ⟨none, 0, rfl, rfl, Nat.zero_le _, fun _ => rfl⟩⟩
theorem row_modsB {w w' : World} {T : Nat → Prop} {b n c : Nat} {l : List Value} (h : Row w (.slice (some ⟨b, 0, none⟩) n c) l) (hm : Mods T w w') (hn : ¬ T b) : Row w' (.slice (some ⟨b, 0, none⟩) n c) l := by
  rcases h with h | ⟨b', off, cap, hv, h1, h2, h3⟩
  · exact .inl h
  · simp only [Value.slice.injEq, Option.some.injEq, Addr.mk.injEq] at hv
    obtain ⟨⟨rfl, rfl, -⟩, rfl, rfl⟩ := hv
    exact .inr ⟨_, _, _, rfl, h1, h2, fun i x hx => hm.cell (h3 i x hx) hn⟩
/-- a row in a block that is none of the disk's -/
theorem At.lit {W w w1 : World} {g : Nat} {d : Dsk} {k : Nat} (_ : At W w g d k) {b n c : Nat} {l : List Value} (hr : Row w1 (.slice (some ⟨b, 0, none⟩) n c) l) (hw : w.heap.size ≤ b) : ∀ w', Mods (Rng W.heap.size w) w1 w' → Row w' (.slice (some ⟨b, 0, none⟩) n c) l := fun _ hm =>
  row_modsB hr hm (fun e => by have := e.2; omega)
set_option maxRecDepth 100000 in
set_option maxHeartbeats 4000000 in
theorem awake04_any (w : World) : Calls Try.prog 11 #[] w fun e w' => e = .returned (.bool true) ∧ Keeps w w' := by
  go_enter Try.func11, Try.ntmps11
  go_wp2_with fail
  go_loopw [1] (fun ix wr => ∃ j : Nat, ix = .int .i64 (j : Int) ∧ j ≤ 2 ∧ Hid (Keeps w wr)) (fun ix _ => 2 - (RowKit.intOf ix).toNat)
  case atStart => exact ⟨0, rfl, by omega, Lib.hid (Keeps.refl _)⟩
  case round =>
    obtain ⟨j, rfl, hj, HK⟩ := hrel
    by_cases hlt : j < 2
    · have hlt' : (j : Int) < 2 := by omega
      have HNW := Lib.hid (new_at HK.out (.slice none 0 0) [] (rowS_none _) (fun f hf => absurd hf (List.not_mem_nil)) 100)
      unfold NewAt at HNW
      rw [aw0_new] at HNW
      go_wp2_with fail
      refine HNW.out.mono ?_
      rintro e w1 ⟨hk, g, rfl, hd⟩
      have H0 := Lib.hid (show At w w1 g aw0 0 from ⟨hd, hk, aw0_few⟩)
      clear hd hk HNW
      have HC := Lib.hid (create_at H0.out (by omega) nA (by decide))
      rw [aw1_e] at HC
      unfold nA at HC
      go_wp2_with fail
      refine HC.out.mono ?_
      rintro e w2 ⟨rfl, h1⟩
      have H1 := Lib.hid (show At w w2 g aw1 1 from h1)
      clear h1 HC
      have HAP := Lib.hid (append_at (w1 := w2.alloc (.cells #[.int .u8 120, .int .u8 121, .int .u8 122] 5 (3, 4))) H1.out (by omega) ((Keeps.refl _).alloc _) nA (by decide) (bv := .slice (some ⟨w2.heap.size, 0, none⟩) 3 3) (b := [120, 121, 122]) (H1.out.lit (Frm.row_mark (l := [120, 121, 122].map u8v) rfl rfl (by decide)) (Nat.le_refl _)) (by decide))
      rw [aw2_e] at HAP
      unfold nA at HAP
      have kc := fun (w : World) (C : Array Value) (n c : Nat) => Lib.run_convert_bytes_const (P := Try.prog) w 22 5 C n c Try.underlying22 Try.underlying5
      go_wp2_with fail
      refine HAP.out.mono ?_
      rintro e w3 ⟨rfl, h2⟩
      have H2 := Lib.hid (show At w w3 g aw2 2 from h2)
      clear h2 HAP
      have HSY := Lib.hid (sync_at H2.out (by omega) nA (by decide))
      rw [aw3_e] at HSY
      unfold nA at HSY
      go_wp2_with fail
      refine HSY.out.mono ?_
      rintro e w4 ⟨rfl, h3⟩
      have H3 := Lib.hid (show At w w4 g aw3 3 from h3)
      clear h3 HSY
      have HCR := Lib.hid (crash_at H3.out 0)
      go_wp2_with fail
      refine HCR.out.mono ?_
      rintro e w5 ⟨rfl, h4⟩
      have H4 := Lib.hid (show At w w5 g aw4 3 from h4)
      clear h4 HCR
      have HSD := Lib.hid (syncDir_at H4.out (by omega))
      rw [aw5_e] at HSD
      go_wp2_with fail
      refine HSD.out.mono ?_
      rintro e w6 ⟨rfl, h5⟩
      have H5 := Lib.hid (show At w w6 g aw5 4 from h5)
      clear h5 HSD
      have HDN := Lib.hid (down_at H5.out)
      rw [aw5_off] at HDN
      go_wp2_with fail
      refine HDN.out.mono ?_
      rintro e w7 ⟨rfl, rfl⟩
      have HBT := Lib.hid (boot_at H5.out (by omega) (j : Int) (wf64 (by omega)) (kv := .slice none 0 0) (keep := []) (fun w' _ => row_nil w'))
      rw [aw6_e] at HBT
      clear HDN
      go_wp2_with fail
      refine HBT.out.mono ?_
      rintro e w8 ⟨rfl, h6⟩
      have H6 := Lib.hid (show At w w8 g (aw6 j) 8 from h6)
      clear h6 HBT
      have HRD := Lib.hid (read_at H6.out nA (by decide))
      unfold ReadDid at HRD
      rcases (show j = 0 ∨ j = 1 by omega) with rfl | rfl
      · rw [show textD (aw6 ((0 : Nat) : Int)) nA = ([], 7) from aw6_0] at HRD
        unfold nA at HRD
        go_wp2_with fail
        refine HRD.out.mono ?_
        rintro e w9 ⟨v, rfl, -, hk⟩
        have HK9 := Lib.hid (H6.out.keep.trans hk)
        clear hk HRD
        go_wp2_with fail
        go_roundw
        case rel => exact ⟨1, by simp, by omega, HK9⟩
        case measure => simp [RowKit.intOf]
      · rw [show textD (aw6 ((1 : Nat) : Int)) nA = ([120, 121, 122], 0) from aw6_1] at HRD
        unfold nA at HRD
        go_wp2_with fail
        refine HRD.out.mono ?_
        rintro e w9 ⟨v, rfl, hr, hk⟩
        have HK9 := Lib.hid (H6.out.keep.trans hk)
        have hc := Frm.str_at' hr
        clear hk HRD
        have hb : (!(bstr [120, 121, 122]).toList == [120, 121, 122]) = false := by rw [bstr_toList]; rfl
        go_wp2_with fail
        go_roundw
        case rel => exact ⟨2, by simp, by omega, HK9⟩
        case measure => simp [RowKit.intOf]
    · obtain rfl : j = 2 := by omega
      go_wp2_with fail
      go_ret
      exact ⟨rfl, HK.out⟩
end Vd
end Go.Proofs.Ytchjncnolmiejaa

/- VdiskReads: its walk. -/
namespace Go.Proofs.Ytchjncnolmiejaa
open Go.RowKit
namespace Vd
open Go.Maps
theorem bstr_of (s : ByteArray) : ∃ x : Str, s = bstr x := ⟨s.data.toList, by simp [bstr]⟩
/-- a slice of one file, made of its parts -/
theorem rowS_one {w : World} {b : Nat} {t : TypeId} (f : FileX) (h : Blk w b t (fileA f)) : RowS w 2 (.slice (some ⟨b, 0, none⟩) 1 1) [f].length ([f].flatMap fileC) :=
  ⟨rfl, .inr ⟨b, 0, 1, rfl, Nat.le_refl _, by decide, fun i x hx => by
    rw [Nat.zero_add, h.cell]
    simpa [fileC] using hx⟩⟩
def oneD (cap : Int) (x l : Str) : Dsk := ⟨cap, [madeN l], [(x, 0)], [(x, 0)], [], false, 0, (-1, 0), (-1, 0)⟩
theorem newD_one {cap : Int} (h1 : 1 ≤ cap) (h2 : cap ≤ 4194304) {x l : Str} {v : Value} (hx : namedB x = true) (hl : (l.length : Int) ≤ cap) : newD [(x, l, v)] cap = some (oneD cap x l) := by
  unfold newD
  rw [if_neg (by simp; omega), newF_cons, if_neg (by simp [look]), if_neg (by simp [hx]), if_neg (by simp [bytesN]; omega)]
  simp [newF, putN, oneD]
theorem oneD_few (cap : Int) (x l : Str) : Few (oneD cap x l) 1 := ⟨by show (0 : Int) ≤ 0; omega, by show (0 : Int) ≤ 1; omega, Nat.zero_le _, Nat.le_refl _, fun y hy => by simp [oneD] at hy; subst hy; exact Nat.zero_le _, Nat.le_refl _, Nat.le_refl _⟩
theorem oneD_text (cap : Int) (x l y : Str) : textD (oneD cap x l) y = if y = x then (l, 0) else ([], 7) := by
  unfold textD oneD
  simp only [Bool.false_eq_true, if_false]
  by_cases h : y = x
  · subst h
    simp [look, madeN]
  · rw [if_neg h]
    have : ¬ x = y := fun e => h e.symm
    simp [look, this]
theorem readAtD_ok {d : Dsk} {x l : Str} (h : textD d x = (l, 0)) (a n : Int) : readAtD d x a n = if a < 0 ∨ n < 0 then ([], 1) else if (l.length : Int) < a ∨ (l.length : Int) - a < n then ([], 2) else ((l.drop a.toNat).take n.toNat, 0) := by
  unfold readAtD
  rw [h]
  rfl
theorem named_a : namedB [97] = true := by kernel_rfl
theorem named_s : namedB [115] = true := by kernel_rfl
theorem named_n : namedB [110] = true := by kernel_rfl
end Vd
end Go.Proofs.Ytchjncnolmiejaa

/- A file that is written anew and renamed over the elder one, plain. -/
namespace Go.Proofs.Ytchjncnolmiejaa
open Go.RowKit
namespace Vd
theorem op_down {d d' : Dsk} (h : changeD d = (d', 11)) (x y b : Str) : createD d x = (d', 11) ∧ appendD d x b = (d', 11) ∧ syncD d x = (d', 11) ∧ renameD d x y = (d', 11) ∧ unlinkD d x = (d', 11) ∧ syncDirD d = (d', 11) := by
  have ht : touchD d x = (d', 0, 11) := by unfold touchD; rw [h]; rfl
  refine ⟨?_, ?_, ?_, ?_, ?_, ?_⟩
  · unfold createD; rw [h]; rfl
  · unfold appendD; rw [ht]; rfl
  · unfold syncD; rw [ht]; rfl
  · unfold renameD; rw [h]; rfl
  · unfold unlinkD; rw [ht]; rfl
  · unfold syncDirD; rw [h]; rfl
theorem change_off {d : Dsk} (h : d.off = true) : changeD d = (d, 11) := by unfold changeD; rw [if_pos h]
theorem change_crash {d : Dsk} (h : d.off = false) {k' : Int} (hk : springT d.crash.1 = (k', true)) : changeD d = ({ d with off := true, count := d.count + 1, fail := ((springT d.fail.1).1, d.fail.2), crash := (k', d.crash.2) }, 11) := by
  unfold changeD
  rw [if_neg (by simp [h]), hk, if_pos rfl]
theorem change_go {d : Dsk} (h : d.off = false) {k' f' : Int} (hk : springT d.crash.1 = (k', false)) (hf : springT d.fail.1 = (f', false)) : changeD d = ({ d with off := false, count := d.count + 1, fail := (f', d.fail.2), crash := (k', d.crash.2) }, 0) := by
  unfold changeD
  rw [if_neg (by simp [h]), hk, if_neg (by simp), hf, if_neg (by simp)]
theorem spring_neg : springT (-1) = (-1, false) := by decide
theorem spring_0 : springT 0 = (-1, true) := by decide
theorem spring_pos {n : Int} (h : 1 ≤ n) : springT n = (n - 1, false) := by
  unfold springT
  split
  · omega
  · simp; omega
theorem overL_nil (b : Str) : overL [] 0 b = b := by
  unfold overL
  simp
/-- the file s with its bytes, and what comes of a new one -/
def w1 (old : Str) (off : Bool) (n : Int) (k : Int × Int) : Dsk := ⟨1048576, [madeN old], [([115], 0)], [([115], 0)], [], off, n, (-1, 0), k⟩
def w2 (old : Str) (off : Bool) (n : Int) (k : Int × Int) : Dsk := ⟨1048576, [madeN old, newN], [([110], 1), ([115], 0)], [([115], 0)], [⟨1, [110], true⟩], off, n, (-1, 0), k⟩
def w3 (old new : Str) (off : Bool) (n : Int) (k : Int × Int) : Dsk := ⟨1048576, [madeN old, ⟨new, [], [⟨0, new⟩], true⟩], [([110], 1), ([115], 0)], [([115], 0)], [⟨1, [110], true⟩], off, n, (-1, 0), k⟩
def w4 (old new : Str) (off : Bool) (n : Int) (k : Int × Int) : Dsk := ⟨1048576, [madeN old, ⟨new, new, [], true⟩], [([110], 1), ([115], 0)], [([115], 0)], [⟨1, [110], true⟩], off, n, (-1, 0), k⟩
def w5 (old new : Str) (off : Bool) (n : Int) (k : Int × Int) : Dsk := ⟨1048576, [madeN old, ⟨new, new, [], true⟩], [([115], 1)], [([115], 0)], [⟨1, [110], true⟩, ⟨1, [115], false⟩], off, n, (-1, 0), k⟩
def w6 (old new : Str) (off : Bool) (n : Int) (k : Int × Int) : Dsk := ⟨1048576, [madeN old, ⟨new, new, [], false⟩], [([115], 1)], [([115], 1)], [], off, n, (-1, 0), k⟩
section
variable {old new : Str} {n : Int} {k : Int × Int} {k' : Int}
theorem w1_go (h : springT k.1 = (k', false)) : createD (w1 old false n k) [110] = (w2 old false (n + 1) (k', k.2), 0) := by
  have hc : changeD (w1 old false n k) = (w1 old false (n + 1) (k', k.2), 0) := change_go rfl h spring_neg
  unfold createD
  rw [hc]
  rfl
theorem w2_free (hl : old.length ≤ 1000) (hn : new.length ≤ 1000) : ¬ freeD (w2 old false n k) < ((overL [] 0 new).length : Int) - (([] : Str).length : Int) := by
  rw [overL_nil]
  simp [freeD, w2, bytesN, madeN, newN]
  omega
theorem w2_go (hl : old.length ≤ 1000) (hn : new.length ≤ 1000) (h : springT k.1 = (k', false)) : appendD (w2 old false n k) [110] new = (w3 old new false (n + 1) (k', k.2), 0) := by
  have hc : changeD (w2 old false n k) = (w2 old false (n + 1) (k', k.2), 0) := change_go rfl h spring_neg
  have ht : touchD (w2 old false n k) [110] = (w2 old false (n + 1) (k', k.2), 1, 0) := by
    unfold touchD
    rw [hc]
    kernel_rfl
  have hw : writeD (w2 old false (n + 1) (k', k.2)) 1 ⟨0, new⟩ = (w3 old new false (n + 1) (k', k.2), 0) := by
    unfold writeD
    rw [if_neg (by exact w2_free hl hn)]
    show (putD (w2 old false (n + 1) (k', k.2)) 1 (wroteN newN ⟨0, new⟩), (0 : Int)) = _
    unfold wroteN
    rw [show overL newN.seen (Pat.mk 0 new).place (Pat.mk 0 new).b = new from overL_nil new]
    kernel_rfl
  unfold appendD
  rw [ht]
  exact hw
theorem w3_go (h : springT k.1 = (k', false)) : syncD (w3 old new false n k) [110] = (w4 old new false (n + 1) (k', k.2), 0) := by
  have hc : changeD (w3 old new false n k) = (w3 old new false (n + 1) (k', k.2), 0) := change_go rfl h spring_neg
  have ht : touchD (w3 old new false n k) [110] = (w3 old new false (n + 1) (k', k.2), 1, 0) := by
    unfold touchD
    rw [hc]
    kernel_rfl
  unfold syncD
  rw [ht]
  rfl
theorem w4_go (h : springT k.1 = (k', false)) : renameD (w4 old new false n k) [110] [115] = (w5 old new false (n + 1) (k', k.2), 0) := by
  have hc : changeD (w4 old new false n k) = (w4 old new false (n + 1) (k', k.2), 0) := change_go rfl h spring_neg
  unfold renameD
  rw [hc]
  rfl
theorem w5_go (h : springT k.1 = (k', false)) : syncDirD (w5 old new false n k) = (w6 old new false (n + 1) (k', k.2), 0) := by
  have hc : changeD (w5 old new false n k) = (w5 old new false (n + 1) (k', k.2), 0) := change_go rfl h spring_neg
  unfold syncDirD
  rw [hc]
  rfl
variable {t : Int} {ks : List Int}
theorem w1_boot : textD (bootD (w1 old true n k) t ks).1 [115] = (old, 0) := by
  unfold bootD
  generalize t.toNat = m
  rcases m with _ | m <;> kernel_rfl
theorem w2_boot : textD (bootD (w2 old true n k) t ks).1 [115] = (old, 0) := by
  unfold bootD
  generalize t.toNat = m
  rcases m with _ | _ | m <;> kernel_rfl
theorem w3_boot : textD (bootD (w3 old new true n k) t ks).1 [115] = (old, 0) := by
  unfold bootD
  generalize t.toNat = m
  rcases m with _ | _ | m <;> kernel_rfl
theorem w4_boot : textD (bootD (w4 old new true n k) t ks).1 [115] = (old, 0) := by
  unfold bootD
  generalize t.toNat = m
  rcases m with _ | _ | m <;> kernel_rfl
theorem w5_boot : textD (bootD (w5 old new true n k) t ks).1 [115] = (old, 0) ∨ textD (bootD (w5 old new true n k) t ks).1 [115] = (new, 0) := by
  unfold bootD
  generalize t.toNat = m
  rcases m with _ | _ | _ | m
  · exact .inl (by kernel_rfl)
  · exact .inl (by kernel_rfl)
  · exact .inr (by kernel_rfl)
  · exact .inr (by kernel_rfl)
theorem w6_boot : textD (bootD (w6 old new true n k) t ks).1 [115] = (new, 0) := by
  unfold bootD
  generalize t.toNat = m
  rcases m with _ | _ | m <;> kernel_rfl
end
/-- the disk behind the steps, and what the last one answered -/
def swD (old new : Str) (c : Int) : Dsk × Int :=
  syncDirD (renameD (syncD (appendD (createD { oneD 1048576 [115] old with crash := setT c 11 } [110]).1 [110] new).1 [110]).1 [110] [115]).1
theorem off_all {d : Dsk} (h : d.off = true) (x y b : Str) : createD d x = (d, 11) ∧ appendD d x b = (d, 11) ∧ syncD d x = (d, 11) ∧ renameD d x y = (d, 11) ∧ unlinkD d x = (d, 11) ∧ syncDirD d = (d, 11) := op_down (change_off h) x y b
theorem sw_cases (old new : Str) (hl : old.length ≤ 1000) (hn : new.length ≤ 1000) (c : Int) : (∃ n k, swD old new c = (w6 old new false n k, 0)) ∨ (swD old new c).2 = 11 ∧ (swD old new c).1.off = true ∧ ∀ t ks, textD (bootD (swD old new c).1 t ks).1 [115] = (old, 0) ∨ textD (bootD (swD old new c).1 t ks).1 [115] = (new, 0) := by
  have h0 : { oneD 1048576 [115] old with crash := setT c 11 } = w1 old false 0 (setT c 11) := rfl
  unfold swD
  rw [h0]
  have hin := (setT_in c 11).1
  generalize setT c 11 = k at *
  -- where it crashes
  have neg : ∀ {x : Int}, x = -1 → springT x = (-1, false) := fun e => by rw [e]; exact spring_neg
  have step : ∀ x : Int, -1 ≤ x → springT x = (-1, true) ∨ ∃ y, -1 ≤ y ∧ springT x = (y, false) := fun x hx => by
    rcases (show x = -1 ∨ x = 0 ∨ 1 ≤ x by omega) with e | e | e
    · exact .inr ⟨-1, by omega, neg e⟩
    · rw [e]; exact .inl spring_0
    · exact .inr ⟨x - 1, by omega, spring_pos e⟩
  rcases step k.1 hin with h1 | ⟨k1, hk1, h1⟩
  · rw [(op_down (change_crash (d := w1 old false 0 k) rfl h1) [110] [115] new).1]
    simp only [w1]
    rw [(off_all rfl [110] [115] new).2.1]
    rw [(off_all rfl [110] [115] new).2.2.1]
    rw [(off_all rfl [110] [115] new).2.2.2.1]
    rw [(off_all rfl [110] [115] new).2.2.2.2.2]
    exact .inr ⟨rfl, rfl, fun t ks => .inl w1_boot⟩
  rw [w1_go h1]
  rcases step k1 hk1 with h2 | ⟨k2, hk2, h2⟩
  · rw [(op_down (change_crash (d := w2 old false (0 + 1) (k1, k.2)) rfl h2) [110] [115] new).2.1]
    simp only [w2]
    rw [(off_all rfl [110] [115] new).2.2.1]
    rw [(off_all rfl [110] [115] new).2.2.2.1]
    rw [(off_all rfl [110] [115] new).2.2.2.2.2]
    exact .inr ⟨rfl, rfl, fun t ks => .inl w2_boot⟩
  rw [w2_go hl hn h2]
  rcases step k2 hk2 with h3 | ⟨k3, hk3, h3⟩
  · rw [(op_down (change_crash (d := w3 old new false (0 + 1 + 1) (k2, k.2)) rfl h3) [110] [115] new).2.2.1]
    simp only [w3]
    rw [(off_all rfl [110] [115] new).2.2.2.1]
    rw [(off_all rfl [110] [115] new).2.2.2.2.2]
    exact .inr ⟨rfl, rfl, fun t ks => .inl w3_boot⟩
  rw [w3_go h3]
  rcases step k3 hk3 with h4 | ⟨k4, hk4, h4⟩
  · rw [(op_down (change_crash (d := w4 old new false (0 + 1 + 1 + 1) (k3, k.2)) rfl h4) [110] [115] new).2.2.2.1]
    simp only [w4]
    rw [(off_all rfl [110] [115] new).2.2.2.2.2]
    exact .inr ⟨rfl, rfl, fun t ks => .inl w4_boot⟩
  rw [w4_go h4]
  rcases step k4 hk4 with h5 | ⟨k5, hk5, h5⟩
  · rw [(op_down (change_crash (d := w5 old new false (0 + 1 + 1 + 1 + 1) (k4, k.2)) rfl h5) [110] [115] new).2.2.2.2.2]
    exact .inr ⟨rfl, rfl, fun t ks => w5_boot⟩
  rw [w5_go h5]
  exact .inl ⟨_, _, rfl⟩
/-- behind the last one's crash -/
theorem sw_last (old new : Str) (n : Int) (k : Int × Int) : ∃ n' k', (syncDirD { w6 old new false n k with crash := setT 0 11 }).1 = w6 old new true n' k' := by
  have h : syncDirD { w6 old new false n k with crash := setT 0 11 } = ({ w6 old new false n k with off := true, count := n + 1, fail := ((springT (-1)).1, 0), crash := (-1, 11) }, 11) := (op_down (change_crash (d := { w6 old new false n k with crash := setT 0 11 }) rfl spring_0) [] [] []).2.2.2.2.2
  rw [h]
  exact ⟨_, _, rfl⟩
end Vd
end Go.Proofs.Ytchjncnolmiejaa

/- VdiskSwaps: its walk. -/
namespace Go.Proofs.Ytchjncnolmiejaa
open Go.RowKit
namespace Vd
open Go.Maps
theorem boot_e {d : Dsk} (h : d.off = true) (t : Int) (ks : List Int) : (bootD d t ks).2 = 0 := by
  unfold bootD
  rw [if_neg (by simp [h])]
end Vd
end Go.Proofs.Ytchjncnolmiejaa

/- The disk's contracts beside blocks that are none of the disk's. -/
namespace Go.Proofs.Ytchjncnolmiejaa
open Go.RowKit
namespace Vd
open Go.Maps
/-- from w1 on the disk alone was changed: its blocks (S, and those that were made since) -/
structure On (S : Nat → Prop) (w1 w : World) (g : Nat) (d : Dsk) (k : Nat) : Prop where
  dsk : DiskAt w (More S w1 w) g d
  mods : Mods S w1 w
  few : Few d k
  lt : ∀ y, S y → y < w1.heap.size
section
variable {S : Nat → Prop} {w1 w wb w' : World} {g : Nat} {d d' : Dsk} {k k' : Nat}
theorem On.did (h : On S w1 w g d k) (hk : Keeps w wb) {r : Dsk × Int} {e : Ending} (hd : DskDid wb (More (More S w1 w) wb w') g r e w') (hf : Few r.1 k') : e = .returned (.int .i64 r.2) ∧ On S w1 w' g r.1 k' := by
  obtain ⟨h1, h2, h3⟩ := hd
  have hs := h3.size
  have hs1 := hk.size
  have hs0 := h.mods.size
  refine ⟨h1, h2.wide (fun y hy => ?_), ?_, hf, h.lt⟩
  · rcases hy with (hy | hy) | hy
    · exact .inl hy
    · exact .inr (by omega)
    · exact .inr (by omega)
  · refine h.mods.trans ((Mods.of_keeps (S := fun _ => False) hk).mono (fun y hy => hy.elim) |>.trans h3 (T := More (More S w1 w) wb w') (S := fun y => More (More S w1 w) wb w' y) (fun y hy _ => hy)) (fun y hy hlt => ?_)
    rcases hy with (hy | hy) | hy
    · exact hy
    · omega
    · omega
theorem On.did0 (h : On S w1 w g d k) (hd : DiskAt w' (More S w1 w) g d') (hm : Mods (More S w1 w) w w') (hf : Few d' k') : On S w1 w' g d' k' :=
  ⟨hd.wide (fun y hy => hy.imp id (fun hh => ⟨hh.1, Nat.lt_of_lt_of_le hh.2 hm.size⟩)), h.mods.trans hm (fun y hy hlt => hy.elim id (fun hh => by omega)), hf, h.lt⟩
theorem On.keeps (h : On S w1 w g d k) (hk : Keeps w w') : On S w1 w' g d k :=
  h.did0 (h.dsk.keeps hk) (Mods.of_keeps hk) h.few
/-- from here on -/
theorem On.base (h : On S w1 w g d k) (hk : Keeps w wb) : On (More S w1 w) wb wb g d k :=
  ⟨(h.dsk.keeps hk).wide (fun y hy => .inl hy), Mods.refl _ _, h.few, fun y hy => by
    have hs := hk.size
    have hs0 := h.mods.size
    rcases hy with hy | hy
    · have := h.lt y hy
      omega
    · omega⟩
theorem On.back (h : On S w1 w g d k) (hk : Keeps w wb) (h2 : On (More S w1 w) wb w' g d' k') : On S w1 w' g d' k' := by
  have hs := h2.mods.size
  have hs1 := hk.size
  have hs0 := h.mods.size
  refine ⟨h2.dsk.wide (fun y hy => ?_), ?_, h2.few, h.lt⟩
  · rcases hy with (hy | hy) | hy
    · exact .inl hy
    · exact .inr (by omega)
    · exact .inr (by omega)
  · refine h.mods.trans ((Mods.of_keeps (S := More S w1 w) hk).trans h2.mods (fun y hy _ => hy)) (fun y hy hlt => ?_)
    rcases hy with hy | hy
    · exact hy
    · omega
/-- a block that is none of the disk's -/
theorem On.blk (h : On S w1 w g d k) (h2 : On (More S w1 w) wb w' g d' k') {b : Nat} {t : TypeId} {cs : Array Value} (hb : Blk wb b t cs) (hw : w.heap.size ≤ b) : Blk w' b t cs :=
  hb.mods h2.mods (fun hy => by
    have hs0 := h.mods.size
    rcases hy with hy | hy
    · have := h.lt b hy
      omega
    · omega)
theorem On.cnt (h : On S w1 w g d k) (hk : k ≤ 400) : -1 ≤ d.count ∧ d.count ≤ 9000000000000000000 := by
  have h0 := h.few.c0
  have h1 := h.few.c1
  omega
theorem create_on (h : On S w1 w g d k) (hk : k ≤ 400) (x : Str) (hx : x.length ≤ 9000000000000000000) : Calls Try.prog 14 #[.pointer (some ⟨g, 0, none⟩), .string (bstr x)] w fun e w' => e = .returned (.int .i64 (createD d x).2) ∧ On S w1 w' g (createD d x).1 (k + 1) :=
  (create_any w h.dsk (h.cnt hk) x hx (by have := h.few.m; omega) (by have := h.few.n; omega)).mono (fun e w' hd => h.did (Keeps.refl _) hd (few_create h.few x))
theorem append_on (h : On S w1 w g d k) (hk : k ≤ 400) (x : Str) (hx : x.length ≤ maxLen) {bv : Value} {b : Str} (hb : ∀ w', Mods (More S w1 w) w w' → Row w' bv (b.map u8v)) (hbl : b.length ≤ 1000000000) : Calls Try.prog 15 #[.pointer (some ⟨g, 0, none⟩), .string (bstr x), bv] w fun e w' => e = .returned (.int .i64 (appendD d x b).2) ∧ On S w1 w' g (appendD d x b).1 (k + 1) :=
  (append_any w h.dsk (h.cnt hk) x hx hb hbl (fun y hy => by have := h.few.p y hy; omega)).mono (fun e w' hd => h.did (Keeps.refl _) hd (few_append h.few x b))
theorem sync_on (h : On S w1 w g d k) (hk : k ≤ 400) (x : Str) (hx : x.length ≤ maxLen) : Calls Try.prog 16 #[.pointer (some ⟨g, 0, none⟩), .string (bstr x)] w fun e w' => e = .returned (.int .i64 (syncD d x).2) ∧ On S w1 w' g (syncD d x).1 (k + 1) :=
  (sync_any w h.dsk (h.cnt hk) x hx).mono (fun e w' hd => h.did (Keeps.refl _) hd (few_sync h.few x))
theorem rename_on (h : On S w1 w g d k) (hk : k ≤ 400) (x y : Str) (hx : x.length ≤ 9000000000000000000) (hy : y.length ≤ 9000000000000000000) : Calls Try.prog 59 #[.pointer (some ⟨g, 0, none⟩), .string (bstr x), .string (bstr y)] w fun e w' => e = .returned (.int .i64 (renameD d x y).2) ∧ On S w1 w' g (renameD d x y).1 (k + 1) :=
  (rename_any w h.dsk (h.cnt hk) x y hx hy (by have := h.few.m; omega)).mono (fun e w' hd => h.did (Keeps.refl _) hd (few_rename h.few x y))
theorem unlink_on (h : On S w1 w g d k) (hk : k ≤ 400) (x : Str) (hx : x.length ≤ maxLen) : Calls Try.prog 61 #[.pointer (some ⟨g, 0, none⟩), .string (bstr x)] w fun e w' => e = .returned (.int .i64 (unlinkD d x).2) ∧ On S w1 w' g (unlinkD d x).1 (k + 1) :=
  (unlink_any w h.dsk (h.cnt hk) x hx (by have := h.few.m; omega)).mono (fun e w' hd => h.did (Keeps.refl _) hd (few_unlink h.few x))
theorem syncDir_on (h : On S w1 w g d k) (hk : k ≤ 400) : Calls Try.prog 17 #[.pointer (some ⟨g, 0, none⟩)] w fun e w' => e = .returned (.int .i64 (syncDirD d).2) ∧ On S w1 w' g (syncDirD d).1 (k + 1) :=
  (syncDir_any w h.dsk (h.cnt hk) (by have := h.few.n; omega)).mono (fun e w' hd => h.did (Keeps.refl _) hd (few_syncDir h.few))
/-- the law's side -/
theorem At.on {W : World} (h : At W w g d k) : On (fun _ => False) W w g d k :=
  ⟨h.dsk.wide (fun y hy => .inr hy), Mods.of_keeps h.keep, h.few, fun y hy => hy.elim⟩
theorem On.at_ {W : World} (h : On (fun _ => False) W w g d k) : At W w g d k :=
  ⟨h.dsk.wide (fun y hy => hy.elim (fun hh => hh.elim) id), h.mods.keeps (Keeps.refl _) (fun y hy => hy.elim), h.few⟩
theorem size_any (w : World) (h : DiskAt w S g d) (x : Str) (hx : x.length ≤ maxLen) : Calls Try.prog 173 #[.pointer (some ⟨g, 0, none⟩), .string (bstr x)] w fun e w' => e = .returned (.tuple #[.int .i64 ((textD d x).1.length : Int), .int .i64 (textD d x).2]) ∧ w = w' := by
  have HT := Lib.hid (text_any w h x hx)
  have hsz := bstr_size (textD d x).1
  clear h
  generalize textD d x = r at *
  obtain ⟨s, er⟩ := r
  simp only at HT hsz
  go_enter Try.func173, Try.ntmps173
  go_wp2_with fail
  refine HT.out.mono ?_
  rintro e w2 ⟨rfl, rfl⟩
  go_wp2_with fail
  go_ret2
  exact ⟨rfl, rfl⟩
end
end Vd
end Go.Proofs.Ytchjncnolmiejaa

/- safe.again, safe.steps: closures by their contracts. -/
namespace Go.Proofs.Ytchjncnolmiejaa
open Go.RowKit
namespace Sf
/-- what a closure answers, and what holds behind it -/
def Says (Q : Int → World → Prop) (e : Ending) (w' : World) : Prop := ∃ c, e = .returned (.int .i64 c) ∧ Q c w'
/-- a function that has a body is entered -/
def Enters (n : Nat) (args : Array Value) : Prop := ∀ w, (callFunc n args).run Try.prog w = .ok (.enter n args) w
set_option maxRecDepth 100000 in
set_option maxHeartbeats 2000000 in
theorem again_any (w : World) (n : Nat) (first caps : Array Value) (he : Enters n (first ++ caps)) (Q Q2 : Int → World → Prop) (h1 : Calls Try.prog n (first ++ caps) w (Says Q)) (h2 : ∀ c w', Q c w' → c ≠ 0 → c ≠ 11 → Calls Try.prog n (first ++ caps) w' (Says Q2)) (h3 : ∀ c w', Q c w' → c = 0 ∨ c = 11 → Q2 c w') : Calls Try.prog 149 #[.func (.func n) first caps] w (Says Q2) := by
  have H1 := Lib.hid h1
  have H2 := Lib.hid h2
  have H3 := Lib.hid h3
  unfold Enters at he
  clear h1 h2 h3
  go_enter Try.func149, Try.ntmps149
  go_wp2_with fail
  refine H1.out.mono ?_
  rintro e w1 ⟨c, rfl, hq⟩
  have HQ := Lib.hid hq
  clear hq H1
  by_cases h0 : c = 0
  · subst h0
    go_wp2_with fail
    go_ret
    exact ⟨0, rfl, H3.out _ _ HQ.out (.inl rfl)⟩
  · by_cases h11 : c = 11
    · subst h11
      go_wp2_with fail
      go_ret
      exact ⟨11, rfl, H3.out _ _ HQ.out (.inr rfl)⟩
    · have e1 : (c != 0) = true := by simp [h0]
      have e2 : (c != 11) = true := by simp [h11]
      have HC := Lib.hid (H2.out _ _ HQ.out h0 h11)
      clear h0 h11
      go_wp2_with fail
      refine HC.out.mono ?_
      rintro e w2 ⟨c2, rfl, hq⟩
      have HQ2 := Lib.hid hq
      clear hq HC
      go_wp2_with fail
      go_ret
      exact ⟨c2, rfl, HQ2.out⟩
/-- a closure: its function, what stands ahead of its arguments, what it holds -/
abbrev Clo := Nat × Array Value × Array Value
def cloV (f : Clo) : Value := .func (.func f.1) f.2.1 f.2.2
set_option maxRecDepth 100000 in
set_option maxHeartbeats 2000000 in
theorem steps_any (w : World) (B : Nat) (fs : List Clo) (hn : fs.length ≤ 1000) (P : Nat → Int → World → Prop) (he : ∀ i (h : i < fs.length), Enters fs[i].1 (fs[i].2.1 ++ fs[i].2.2))
    (hc : ∀ i (h : i < fs.length) w', P i 0 w' → w'.cell? ⟨B, i, none⟩ = some (cloV fs[i]))
    (hs : ∀ i (h : i < fs.length) w', P i 0 w' → Calls Try.prog fs[i].1 (fs[i].2.1 ++ fs[i].2.2) w' (Says (P (i + 1))))
    (hup : ∀ i c w', i < fs.length → P (i + 1) c w' → c ≠ 0 → P fs.length c w') (h0 : P 0 0 w) :
    Calls Try.prog 146 #[.slice (some ⟨B, 0, none⟩) fs.length fs.length] w (Says (P fs.length)) := by
  obtain ⟨n, hnn⟩ : ∃ n, n = fs.length := ⟨_, rfl⟩
  rw [← hnn] at hn ⊢
  have HN := Lib.hid hnn
  have HE := Lib.hid he
  have HC := Lib.hid hc
  have HS := Lib.hid hs
  have HU := Lib.hid hup
  have H0 := Lib.hid h0
  clear he hc hs hup h0 hnn
  go_enter Try.func146, Try.ntmps146
  go_wp2_with fail
  go_loopw [8] (fun ix wr => ∃ j : Nat, ix = .int .i64 (j : Int) ∧ j ≤ n ∧ Hid (P j 0 wr)) (fun ix _ => n - (RowKit.intOf ix).toNat)
  case atStart => exact ⟨0, rfl, Nat.zero_le _, H0⟩
  case round =>
    obtain ⟨j, rfl, hj, HP⟩ := hrel
    by_cases hlt : j < n
    · have hjl : j < fs.length := by rw [← HN.out]; exact hlt
      have hcell := HC.out j hjl wr HP.out
      have he := HE.out j hjl
      have HCL := Lib.hid (HS.out j hjl wr HP.out)
      have HUU := Lib.hid (HU.out j)
      have hlt' : (j : Int) < (n : Int) := by omega
      generalize fs[j] = f at *
      obtain ⟨m, first, caps⟩ := f
      unfold Enters at he
      unfold cloV at hcell
      simp only at he hcell
      clear HC HE HS HU
      go_wp2_with fail
      refine HCL.out.mono ?_
      rintro e w1 ⟨c, rfl, hq⟩
      have HQ := Lib.hid hq
      clear hq HCL hcell he
      by_cases h0 : c = 0
      · subst h0
        go_wp2_with fail
        go_roundw
        case rel => exact ⟨j + 1, by simp, by omega, HQ⟩
        case measure =>
          simp only [RowKit.intOf]
          omega
      · have HF := Lib.hid (HUU.out c w1 hjl HQ.out h0)
        have e1 : (c != 0) = true := by simp [h0]
        clear h0
        go_wp2_with fail
        go_ret
        exact ⟨c, rfl, by rw [HN.out]; exact HF.out⟩
    · have hjn : j = n := by omega
      subst hjn
      have hlt' : decide ((j : Int) < (j : Int)) = false := by simp
      go_wp2_with fail
      go_ret
      exact ⟨0, rfl, HP.out⟩
end Sf
end Go.Proofs.Ytchjncnolmiejaa

/- safe: Has, sync, unlink, the closures of Append; Append. -/
namespace Go.Proofs.Ytchjncnolmiejaa
open Go.RowKit
namespace Sf
open Vd
theorem enters_of {n : Nat} {fn : Func} {c : Code} (hf : Try.prog.funcs[n]? = some fn) (hname : (fn.name == "runtime.NumGoroutine") = false) (hb : fn.body = some c) (args : Array Value) : Enters n args := fun w => by
  have h1 : fn.name ≠ "runtime.NumGoroutine" := by simpa using hname
  simp [callFunc, hf, h1, hb]
/-- a call and, unless it went well or the power went, once more -/
def twice (f : Dsk → Dsk × Int) (d : Dsk) : Dsk × Int := if (f d).2 = 0 ∨ (f d).2 = 11 then f d else f (f d).1
/-- the next step, unless the last one failed -/
def thenD (r : Dsk × Int) (f : Dsk → Dsk × Int) : Dsk × Int := if r.2 = 0 then f r.1 else r
def hasD (d : Dsk) (x : Str) : Bool := decide ((textD d x).2 = 0)
def sSync (x : Str) : Dsk → Dsk × Int := twice (fun d => syncD d x)
def sDir : Dsk → Dsk × Int := twice syncDirD
def sUnlink (x : Str) : Dsk → Dsk × Int := twice (fun d => unlinkD d x)
def sAppend (x b : Str) (d : Dsk) : Dsk × Int := thenD (appendD d x b) (sSync x)
theorem twice_one {f : Dsk → Dsk × Int} {d : Dsk} (h : (f d).2 = 0 ∨ (f d).2 = 11) : twice f d = f d := if_pos h
theorem twice_two {f : Dsk → Dsk × Int} {d : Dsk} (h : (f d).2 ≠ 0) (h2 : (f d).2 ≠ 11) : twice f d = f (f d).1 := if_neg (by simp [h, h2])
section
variable {S : Nat → Prop} {w1 w : World} {g : Nat} {d : Dsk} {k : Nat}
/-- what a call says of the disk -/
def Tells (S : Nat → Prop) (w1 : World) (g : Nat) (r : Dsk × Int) (k : Nat) (c : Int) (w' : World) : Prop := c = r.2 ∧ On S w1 w' g r.1 k
theorem tells_of {f : Nat} {args : Array Value} {r : Dsk × Int} {k : Nat} (h : Calls Try.prog f args w fun e w' => e = .returned (.int .i64 r.2) ∧ On S w1 w' g r.1 k) : Calls Try.prog f args w (Says (Tells S w1 g r k)) := h.mono (fun _ _ hh => ⟨_, hh.1, rfl, hh.2⟩)
theorem of_tells {f : Nat} {args : Array Value} {r : Dsk × Int} {k : Nat} (h : Calls Try.prog f args w (Says (Tells S w1 g r k))) : Calls Try.prog f args w fun e w' => e = .returned (.int .i64 r.2) ∧ On S w1 w' g r.1 k := h.mono (fun _ _ ⟨c, h1, h2, h3⟩ => ⟨by rw [h1, h2], h3⟩)
/-- again, of a closure that does f -/
theorem again_on (h : On S w1 w g d k) (n : Nat) (first caps : Array Value) (he : Enters n (first ++ caps)) (f : Dsk → Dsk × Int) (hf : ∀ w' d' k', k' ≤ k + 1 → On S w1 w' g d' k' → Calls Try.prog n (first ++ caps) w' (Says (Tells S w1 g (f d') (k' + 1)))) : Calls Try.prog 149 #[.func (.func n) first caps] w (Says (Tells S w1 g (twice f d) (k + 2))) := by
  refine again_any w n first caps he (Tells S w1 g (f d) (k + 1)) _ (hf w d k (by omega) h) (fun c w' hq h0 h11 => ?_) (fun c w' hq hc => ?_)
  · obtain ⟨rfl, ho⟩ := hq
    rw [twice_two h0 h11]
    exact hf w' _ _ (Nat.le_refl _) ho
  · obtain ⟨rfl, ho⟩ := hq
    rw [twice_one hc]
    exact ⟨rfl, ⟨ho.dsk, ho.mods, ho.few.mono (by omega), ho.lt⟩⟩
theorem has_on (h : On S w1 w g d k) (x : Str) (hx : x.length ≤ maxLen) : Calls Try.prog 145 #[.pointer (some ⟨g, 0, none⟩), .string (bstr x)] w fun e w' => e = .returned (.bool (hasD d x)) ∧ w = w' := by
  have HT := Lib.hid (size_any w h.dsk x hx)
  have HX : Hid (hasD d x = ((textD d x).2 == 0)) := Lib.hid rfl
  clear h
  generalize textD d x = r at *
  obtain ⟨s, er⟩ := r
  simp only at HT HX
  go_enter Try.func145, Try.ntmps145
  go_wp2_with fail
  refine HT.out.mono ?_
  rintro e w2 ⟨rfl, rfl⟩
  go_wp2_with fail
  go_ret
  exact ⟨by rw [HX.out]; rfl, rfl⟩
/-- the boxes that closures hold: the disk's pointer and a name -/
structure Boxes (w : World) (p q g : Nat) (x : Str) : Prop where
  dp : Blk w p 27 #[.pointer (some ⟨g, 0, none⟩)]
  nm : Blk w q 9 #[.string (bstr x)]
theorem sync1_on (h : On S w1 w g d k) (hk : k ≤ 400) {p q : Nat} {x : Str} (hx : x.length ≤ maxLen) (hb : Boxes w p q g x) : Calls Try.prog 175 #[.pointer (some ⟨p, 0, none⟩), .pointer (some ⟨q, 0, none⟩)] w (Says (Tells S w1 g (syncD d x) (k + 1))) := by
  have HC := Lib.hid (sync_on h hk x hx)
  have c0 : w.cell? ⟨p, 0, none⟩ = some (.pointer (some ⟨g, 0, none⟩)) := by rw [hb.dp.cell]; rfl
  have c1 : w.cell? ⟨q, 0, none⟩ = some (.string (bstr x)) := by rw [hb.nm.cell]; rfl
  clear h hb
  generalize syncD d x = r at *
  obtain ⟨d2, er⟩ := r
  go_enter Try.func175, Try.ntmps175
  go_wp2_with fail
  refine HC.out.mono ?_
  rintro e w2 ⟨rfl, ho⟩
  have HO := Lib.hid ho
  clear ho HC c0 c1
  go_wp2_with fail
  go_ret
  exact ⟨er, rfl, rfl, HO.out⟩
theorem unlink1_on (h : On S w1 w g d k) (hk : k ≤ 400) {p q : Nat} {x : Str} (hx : x.length ≤ maxLen) (hb : Boxes w p q g x) : Calls Try.prog 174 #[.pointer (some ⟨p, 0, none⟩), .pointer (some ⟨q, 0, none⟩)] w (Says (Tells S w1 g (unlinkD d x) (k + 1))) := by
  have HC := Lib.hid (unlink_on h hk x hx)
  have c0 : w.cell? ⟨p, 0, none⟩ = some (.pointer (some ⟨g, 0, none⟩)) := by rw [hb.dp.cell]; rfl
  have c1 : w.cell? ⟨q, 0, none⟩ = some (.string (bstr x)) := by rw [hb.nm.cell]; rfl
  clear h hb
  generalize unlinkD d x = r at *
  obtain ⟨d2, er⟩ := r
  go_enter Try.func174, Try.ntmps174
  go_wp2_with fail
  refine HC.out.mono ?_
  rintro e w2 ⟨rfl, ho⟩
  have HO := Lib.hid ho
  clear ho HC c0 c1
  go_wp2_with fail
  go_ret
  exact ⟨er, rfl, rfl, HO.out⟩
theorem ssync_on (h : On S w1 w g d k) (hk : k ≤ 390) (x : Str) (hx : x.length ≤ maxLen) : Calls Try.prog 153 #[.pointer (some ⟨g, 0, none⟩), .string (bstr x)] w (Says (Tells S w1 g (sSync x d) (k + 2))) := by
  have H := Lib.hid h
  clear h
  go_enter Try.func153, Try.ntmps153
  go_upto_region 1 with fail
  generalize hW : World.alloc (World.alloc w _) _ = wb
  have HB := Lib.hid (show Boxes wb w.heap.size (w.heap.size + 1) g x from by
    rw [← hW]
    exact ⟨(Blk.new _ _ _ rfl).alloc _, Blk.new _ _ _ (by rw [Frm.alloc_size])⟩)
  have HK := Lib.hid (show Keeps w wb from by rw [← hW]; exact ((Keeps.refl _).alloc _).alloc _)
  clear hW
  have HA := Lib.hid (again_on (H.out.base HK.out) 175 #[] #[.pointer (some ⟨w.heap.size, 0, none⟩), .pointer (some ⟨w.heap.size + 1, 0, none⟩)] (enters_of Try.func175 (by kernel_rfl) rfl _) (fun d => syncD d x) (fun w' d' k' hk' ho => sync1_on ho (by omega) hx ⟨H.out.blk ho HB.out.dp (Nat.le_refl _), H.out.blk ho HB.out.nm (by omega)⟩))
  go_wp2_with fail
  refine HA.out.mono ?_
  rintro e w2 ⟨c, rfl, rfl, ho⟩
  have HO := Lib.hid (H.out.back HK.out ho)
  clear ho HA
  go_wp2_with fail
  go_ret
  exact ⟨_, rfl, rfl, HO.out⟩
theorem sunlink_on (h : On S w1 w g d k) (hk : k ≤ 390) (x : Str) (hx : x.length ≤ maxLen) : Calls Try.prog 150 #[.pointer (some ⟨g, 0, none⟩), .string (bstr x)] w fun e w' => e = .returned (.tuple #[]) ∧ On S w1 w' g (sUnlink x d).1 (k + 2) := by
  have H := Lib.hid h
  clear h
  go_enter Try.func150, Try.ntmps150
  go_upto_region 1 with fail
  generalize hW : World.alloc (World.alloc w _) _ = wb
  have HB := Lib.hid (show Boxes wb w.heap.size (w.heap.size + 1) g x from by
    rw [← hW]
    exact ⟨(Blk.new _ _ _ rfl).alloc _, Blk.new _ _ _ (by rw [Frm.alloc_size])⟩)
  have HK := Lib.hid (show Keeps w wb from by rw [← hW]; exact ((Keeps.refl _).alloc _).alloc _)
  clear hW
  have HA := Lib.hid (again_on (H.out.base HK.out) 174 #[] #[.pointer (some ⟨w.heap.size, 0, none⟩), .pointer (some ⟨w.heap.size + 1, 0, none⟩)] (enters_of Try.func174 (by kernel_rfl) rfl _) (fun d => unlinkD d x) (fun w' d' k' hk' ho => unlink1_on ho (by omega) hx ⟨H.out.blk ho HB.out.dp (Nat.le_refl _), H.out.blk ho HB.out.nm (by omega)⟩))
  go_wp2_with fail
  refine HA.out.mono ?_
  rintro e w2 ⟨c, rfl, rfl, ho⟩
  have HO := Lib.hid (H.out.back HK.out ho)
  clear ho HA
  go_wp2_with fail
  go_end0
  exact ⟨rfl, HO.out⟩
end
end Sf
end Go.Proofs.Ytchjncnolmiejaa

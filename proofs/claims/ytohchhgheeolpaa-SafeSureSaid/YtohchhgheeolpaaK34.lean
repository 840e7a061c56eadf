/- Several texts in one: VdAt, VdAwake, VdReads, VdSwPlain, VdSwaps. -/
import Derived.Test.YtohchhgheeolpaaVdNew
/- The laws' side of the contracts: how much of everything there is at most; what a call leaves. -/
namespace Go.Proofs.Ytohchhgheeolpaa
open Go.RowKit
namespace Vd
open Go.Maps
/-- of all there is not more than so many -/
structure Few (d : Dsk) (k : Nat) : Prop where
  c0 : 0 ≤ d.count
  c1 : d.count ≤ k
  m : d.moves.length ≤ k
  n : d.nodes.length ≤ k
  p : ∀ y ∈ d.nodes, y.pats.length ≤ k
  s : d.seen.length ≤ k
  u : d.sure.length ≤ k
theorem Few.mono {d : Dsk} {k k' : Nat} (h : Few d k) (hk : k ≤ k') : Few d k' := ⟨h.c0, by have := h.c1; omega, Nat.le_trans h.m hk, Nat.le_trans h.n hk, fun y hy => Nat.le_trans (h.p y hy) hk, Nat.le_trans h.s hk, Nat.le_trans h.u hk⟩
theorem changeD_count (d : Dsk) : (changeD d).1.count = d.count ∨ (changeD d).1.count = d.count + 1 := by
  unfold changeD
  split
  · exact .inl rfl
  · split
    · exact .inr rfl
    · split
      · exact .inr rfl
      · exact .inr rfl
theorem few_change {d : Dsk} {k : Nat} (h : Few d k) : Few (changeD d).1 (k + 1) := by
  obtain ⟨e1, e2, e3, e4, -⟩ := changeD_seen d
  have hc := changeD_count d
  have h0 := h.c0
  have h1 := h.c1
  exact ⟨by omega, by omega, by rw [e4]; exact Nat.le_succ_of_le h.m, by rw [e2]; exact Nat.le_succ_of_le h.n, fun y hy => Nat.le_succ_of_le (h.p y (by rwa [e2] at hy)), by rw [e1]; exact Nat.le_succ_of_le h.s, by rw [e3]; exact Nat.le_succ_of_le h.u⟩
theorem few_touch {d : Dsk} {k : Nat} (h : Few d k) (x : Str) : Few (touchD d x).1 (k + 1) := by rw [touch_fst]; exact few_change h
theorem few_turn {d : Dsk} {k : Nat} (h : Few d k) (m : Mv) : Few (turnD (changeD d).1 m) (k + 1) := by
  obtain ⟨e1, e2, e3, e4, -⟩ := changeD_seen d
  have hf := few_change h
  have hl := give_len (changeD d).1.seen m
  exact ⟨hf.c0, hf.c1, by rw [turnD_len, e4]; exact Nat.succ_le_succ h.m, hf.n, hf.p, by
    show (giveN (changeD d).1.seen m).length ≤ _
    rw [e1] at hl ⊢
    have := h.s
    omega, hf.u⟩
theorem few_create {d : Dsk} {k : Nat} (h : Few d k) (x : Str) : Few (createD d x).1 (k + 1) := by
  unfold createD
  split
  · exact few_change h
  · split
    · exact few_change h
    · split
      · exact few_change h
      · split
        · exact few_change h
        · have hf := few_turn h ⟨d.nodes.length, x, true⟩
          obtain ⟨e1, e2, e3, e4, -⟩ := changeD_seen d
          exact ⟨hf.c0, hf.c1, hf.m, by
            show ((changeD d).1.nodes ++ [newN]).length ≤ _
            rw [e2]
            simpa using h.n, fun y hy => by
            have hy : y ∈ (changeD d).1.nodes ++ [newN] := hy
            rw [e2] at hy
            rcases List.mem_append.1 hy with hy | hy
            · exact Nat.le_succ_of_le (h.p y hy)
            · simp at hy
              subst hy
              exact Nat.zero_le _, hf.s, hf.u⟩
theorem nodD_mem (d : Dsk) (i : Nat) : nodD d i ∈ d.nodes ∨ nodD d i = zeroN := by
  unfold nodD
  rw [List.getD_eq_getElem?_getD]
  cases h : d.nodes[i]? with
  | none => exact .inr rfl
  | some x => exact .inl (List.mem_of_getElem? h)
theorem few_write {d1 : Dsk} {k : Nat} (hf : Few d1 (k + 1)) (hp : ∀ y ∈ d1.nodes, y.pats.length ≤ k) (i : Nat) (p : Pat) : Few (writeD d1 i p).1 (k + 1) := by
  unfold writeD
  split
  · exact hf
  · refine ⟨hf.c0, hf.c1, hf.m, by simpa [putD] using hf.n, fun y hy => ?_, hf.s, hf.u⟩
    rcases List.mem_or_eq_of_mem_set hy with hy | rfl
    · exact hf.p y hy
    · have : (nodD d1 i).pats.length ≤ k := by
        rcases nodD_mem d1 i with h | h
        · exact hp _ h
        · rw [h]; exact Nat.zero_le _
      simpa [wroteN] using this
theorem touch_pats {d : Dsk} {k : Nat} (h : Few d k) (x : Str) : ∀ y ∈ (touchD d x).1.nodes, y.pats.length ≤ k := by rw [(touch_nodes d x).1]; exact h.p
theorem few_append {d : Dsk} {k : Nat} (h : Few d k) (x b : Str) : Few (appendD d x b).1 (k + 1) := by
  unfold appendD
  split
  · exact few_touch h x
  · exact few_write (few_touch h x) (touch_pats h x) _ _
theorem few_pwrite {d : Dsk} {k : Nat} (h : Few d k) (x : Str) (a : Int) (b : Str) : Few (pwriteD d x a b).1 (k + 1) := by
  unfold pwriteD
  split
  · exact few_touch h x
  · split
    · exact few_touch h x
    · exact few_write (few_touch h x) (touch_pats h x) _ _
theorem few_sync {d : Dsk} {k : Nat} (h : Few d k) (x : Str) : Few (syncD d x).1 (k + 1) := by
  unfold syncD
  split
  · exact few_touch h x
  · have hf := few_touch h x
    refine ⟨hf.c0, hf.c1, hf.m, by simpa using hf.n, fun y hy => ?_, hf.s, hf.u⟩
    rcases List.mem_or_eq_of_mem_set hy with hy | rfl
    · exact hf.p y hy
    · exact Nat.zero_le _
theorem few_rename {d : Dsk} {k : Nat} (h : Few d k) (x y : Str) : Few (renameD d x y).1 (k + 1) := by
  unfold renameD
  split
  · exact few_change h
  · split
    · exact few_change h
    · split
      · exact few_turn h _
      · exact few_change h
theorem few_unlink {d : Dsk} {k : Nat} (h : Few d k) (x : Str) : Few (unlinkD d x).1 (k + 1) := by
  unfold unlinkD
  split
  · exact few_touch h x
  · rw [touch_fst]
    exact few_turn h _
theorem few_fix {d : Dsk} {k : Nat} (h : Few d k) : Few (fixD d) k :=
  ⟨h.c0, h.c1, Nat.zero_le _, by simpa [fixD] using h.n, fun y hy => by
    obtain ⟨z, hz, rfl⟩ := List.mem_map.1 hy
    exact h.p z hz, h.s, h.s⟩
theorem few_syncDir {d : Dsk} {k : Nat} (h : Few d k) : Few (syncDirD d).1 (k + 1) := by
  unfold syncDirD
  split
  · exact few_change h
  · exact few_fix (few_change h)
theorem bootIx_pats {k : Nat} : ∀ (L : List Nat) (ns : List Nod) (ks : List Int), (∀ y ∈ ns, y.pats.length ≤ k) → ∀ y ∈ (bootIx L ns ks).1, y.pats.length ≤ k
  | [], _, _, h => h
  | i :: L, ns, ks, h => by
    rw [bootIx_cons]
    refine bootIx_pats L _ _ (fun y hy => ?_)
    rcases List.mem_or_eq_of_mem_set hy with hy | rfl
    · exact h y hy
    · exact Nat.zero_le _
theorem gave_few {d : Dsk} {k : Nat} (h : Few d k) (j : Nat) : (gaveN d j).length ≤ 2 * k := by
  have h1 := h.m
  have h2 := h.u
  by_cases hj : j ≤ d.moves.length
  · have := gave_len d j
    omega
  · rw [gaveN_all (by omega)]
    have := gave_len d d.moves.length
    omega
theorem few_boot {d : Dsk} {k : Nat} (h : Few d k) (t : Int) (ks : List Int) : Few (bootD d t ks).1 (2 * k) := by
  unfold bootD
  split
  · exact h.mono (by omega)
  · have hg := gave_few h t.toNat
    have hh : Few { d with nodes := (bootIx (knownL d) d.nodes ks).1, seen := (d.moves.take t.toNat).foldl giveN d.sure } (2 * k) :=
      ⟨h.c0, by have := h.c1; show d.count ≤ _; omega, Nat.le_trans h.m (by omega), by
        show (bootIx (knownL d) d.nodes ks).1.length ≤ _
        rw [bootIx_len]
        exact Nat.le_trans h.n (by omega), fun y hy => Nat.le_trans (bootIx_pats _ _ _ h.p y hy) (by omega), hg, Nat.le_trans h.u (by omega)⟩
    have hf := few_fix hh
    exact ⟨hf.c0, hf.c1, hf.m, hf.n, hf.p, hf.s, hf.u⟩
/-- the blocks from one on -/
def Rng (B : Nat) (w : World) (y : Nat) : Prop := B ≤ y ∧ y < w.heap.size
/-- a disk that was made behind W, with the bounds that the contracts want -/
structure At (W w : World) (g : Nat) (d : Dsk) (k : Nat) : Prop where
  dsk : DiskAt w (Rng W.heap.size w) g d
  keep : Keeps W w
  few : Few d k
theorem DiskAt.tight {w : World} {S : Nat → Prop} {g : Nat} {d : Dsk} (h : DiskAt w S g d) : DiskAt w (fun y => S y ∧ y < w.heap.size) g d := let ⟨_, _, _, _, _, h⟩ := h; ⟨_, _, _, _, _, h.tight⟩
section
variable {W w w1 w' : World} {g : Nat} {d : Dsk} {k : Nat}
theorem At.keeps (h : At W w g d k) (hk : Keeps w w') : At W w' g d k := ⟨(h.dsk.keeps hk).wide (fun y hy => ⟨hy.1, Nat.lt_of_lt_of_le hy.2 hk.size⟩), h.keep.trans hk, h.few⟩
theorem At.did (h : At W w g d k) (hk : Keeps w w1) {r : Dsk × Int} {e : Ending} (hd : DskDid w1 (More (Rng W.heap.size w) w1 w') g r e w') {k' : Nat} (hf : Few r.1 k') : e = .returned (.int .i64 r.2) ∧ At W w' g r.1 k' := by
  obtain ⟨h1, h2, h3⟩ := hd
  have hs := h3.size
  have hs1 := hk.size
  have hs0 := h.keep.size
  refine ⟨h1, h2.wide (fun y hy => ?_), h3.keeps (h.keep.trans hk) (fun y hy => ?_), hf⟩
  · rcases hy with hy | hy
    · exact ⟨hy.1, by have := hy.2; omega⟩
    · exact ⟨by omega, hy.2⟩
  · rcases hy with hy | hy
    · exact hy.1
    · omega
theorem At.did0 (h : At W w g d k) {d' : Dsk} (hd : DiskAt w' (Rng W.heap.size w) g d') (hm : Mods (Rng W.heap.size w) w w') {k' : Nat} (hf : Few d' k') : At W w' g d' k' :=
  ⟨hd.wide (fun y hy => ⟨hy.1, Nat.lt_of_lt_of_le hy.2 hm.size⟩), hm.keeps h.keep (fun y hy => hy.1), hf⟩
theorem At.arg (h : At W w g d k) (hk : Keeps w w1) {v : Value} {l : List Value} (hr : Row W v l) : ∀ w', Mods (Rng W.heap.size w) w1 w' → Row w' v l := fun _ hm => hr.keeps (hm.keeps (h.keep.trans hk) (fun y hy => hy.1))
theorem At.cnt (h : At W w g d k) (hk : k ≤ 400) : -1 ≤ d.count ∧ d.count ≤ 9000000000000000000 := by
  have h0 := h.few.c0
  have h1 := h.few.c1
  omega
theorem create_at (h : At W w g d k) (hk : k ≤ 400) (x : Str) (hx : x.length ≤ 9000000000000000000) : Calls Try.prog 18 #[.pointer (some ⟨g, 0, none⟩), .string (bstr x)] w fun e w' => e = .returned (.int .i64 (createD d x).2) ∧ At W w' g (createD d x).1 (k + 1) :=
  (create_any w h.dsk (h.cnt hk) x hx (by have := h.few.m; omega) (by have := h.few.n; omega)).mono (fun e w' hd => h.did (Keeps.refl _) hd (few_create h.few x))
theorem append_at (h : At W w g d k) (hk : k ≤ 400) (kw : Keeps w w1) (x : Str) (hx : x.length ≤ maxLen) {bv : Value} {b : Str} (hb : ∀ w', Mods (Rng W.heap.size w) w1 w' → Row w' bv (b.map u8v)) (hbl : b.length ≤ 1000000000) : Calls Try.prog 19 #[.pointer (some ⟨g, 0, none⟩), .string (bstr x), bv] w1 fun e w' => e = .returned (.int .i64 (appendD d x b).2) ∧ At W w' g (appendD d x b).1 (k + 1) :=
  (append_any w1 (h.dsk.keeps kw) (h.cnt hk) x hx hb hbl (fun y hy => by have := h.few.p y hy; omega)).mono (fun e w' hd => h.did kw hd (few_append h.few x b))
theorem sync_at (h : At W w g d k) (hk : k ≤ 400) (x : Str) (hx : x.length ≤ maxLen) : Calls Try.prog 20 #[.pointer (some ⟨g, 0, none⟩), .string (bstr x)] w fun e w' => e = .returned (.int .i64 (syncD d x).2) ∧ At W w' g (syncD d x).1 (k + 1) :=
  (sync_any w h.dsk (h.cnt hk) x hx).mono (fun e w' hd => h.did (Keeps.refl _) hd (few_sync h.few x))
theorem rename_at (h : At W w g d k) (hk : k ≤ 400) (x y : Str) (hx : x.length ≤ 9000000000000000000) (hy : y.length ≤ 9000000000000000000) : Calls Try.prog 21 #[.pointer (some ⟨g, 0, none⟩), .string (bstr x), .string (bstr y)] w fun e w' => e = .returned (.int .i64 (renameD d x y).2) ∧ At W w' g (renameD d x y).1 (k + 1) :=
  (rename_any w h.dsk (h.cnt hk) x y hx hy (by have := h.few.m; omega)).mono (fun e w' hd => h.did (Keeps.refl _) hd (few_rename h.few x y))
theorem unlink_at (h : At W w g d k) (hk : k ≤ 400) (x : Str) (hx : x.length ≤ maxLen) : Calls Try.prog 89 #[.pointer (some ⟨g, 0, none⟩), .string (bstr x)] w fun e w' => e = .returned (.int .i64 (unlinkD d x).2) ∧ At W w' g (unlinkD d x).1 (k + 1) :=
  (unlink_any w h.dsk (h.cnt hk) x hx (by have := h.few.m; omega)).mono (fun e w' hd => h.did (Keeps.refl _) hd (few_unlink h.few x))
theorem syncDir_at (h : At W w g d k) (hk : k ≤ 400) : Calls Try.prog 22 #[.pointer (some ⟨g, 0, none⟩)] w fun e w' => e = .returned (.int .i64 (syncDirD d).2) ∧ At W w' g (syncDirD d).1 (k + 1) :=
  (syncDir_any w h.dsk (h.cnt hk) (by have := h.few.n; omega)).mono (fun e w' hd => h.did (Keeps.refl _) hd (few_syncDir h.few))
theorem boot_at (h : At W w g d k) (hk : k ≤ 400) (t : Int) (ht : (Lit.int .i64 t).wf = true) {kv : Value} {keep : List Int} (hr : ∀ w', Mods (Rng W.heap.size w) w w' → Row w' kv (keep.map (Value.int .i64))) : Calls Try.prog 24 #[.pointer (some ⟨g, 0, none⟩), .int .i64 t, kv] w fun e w' => e = .returned (.int .i64 (bootD d t keep).2) ∧ At W w' g (bootD d t keep).1 (2 * k) :=
  (boot_any w h.dsk t ht hr (fun j => by have := gave_few h.few j; omega) (by have := h.few.n; omega) (by have := h.few.m; omega)).mono (fun e w' hd => h.did (Keeps.refl _) hd (few_boot h.few t keep))
theorem crash_at (h : At W w g d k) (n : Int) : Calls Try.prog 17 #[.pointer (some ⟨g, 0, none⟩), .int .i64 n] w fun e w' => e = .returned (.tuple #[]) ∧ At W w' g { d with crash := setT n 11 } k :=
  (crash_any w h.dsk n).mono (fun e w' hd => ⟨hd.1, h.did0 hd.2.1 hd.2.2 ⟨h.few.c0, h.few.c1, h.few.m, h.few.n, h.few.p, h.few.s, h.few.u⟩⟩)
theorem fail_at (h : At W w g d k) (n er : Int) : Calls Try.prog 34 #[.pointer (some ⟨g, 0, none⟩), .int .i64 n, .int .i64 er] w fun e w' => e = .returned (.tuple #[]) ∧ At W w' g { d with fail := failT n er } k :=
  (fail_any w h.dsk n er).mono (fun e w' hd => ⟨hd.1, h.did0 hd.2.1 hd.2.2 ⟨h.few.c0, h.few.c1, h.few.m, h.few.n, h.few.p, h.few.s, h.few.u⟩⟩)
theorem read_at (h : At W w g d k) (x : Str) (hx : x.length ≤ maxLen) : Calls Try.prog 25 #[.pointer (some ⟨g, 0, none⟩), .string (bstr x)] w (ReadDid w (textD d x)) := read_any w h.dsk x hx
theorem readAt_at (h : At W w g d k) (x : Str) (hx : x.length ≤ maxLen) (a n : Int) (ha : (Lit.int .i64 a).wf = true) (hn : (Lit.int .i64 n).wf = true) : Calls Try.prog 16 #[.pointer (some ⟨g, 0, none⟩), .string (bstr x), .int .i64 a, .int .i64 n] w (ReadDid w (readAtD d x a n)) := readAt_any w h.dsk x hx a n ha hn
theorem down_at (h : At W w g d k) : Calls Try.prog 23 #[.pointer (some ⟨g, 0, none⟩)] w fun e w' => e = .returned (.bool d.off) ∧ w = w' := down_any w h.dsk
/-- what New answers, behind W -/
def NewAt (W : World) (r : Option Dsk) (e : Ending) (w' : World) : Prop := Keeps W w' ∧ match r with
  | none => e = .returned (.pointer none)
  | some d => ∃ g, e = .returned (.pointer (some ⟨g, 0, none⟩)) ∧ DiskAt w' (Rng W.heap.size w') g d
theorem new_at (hk : Keeps W w) (v : Value) (fs : List FileX) (h : RowS w 2 v fs.length (fs.flatMap fileC)) (hok : ∀ f ∈ fs, FileOk w f) (cap : Int) : Calls Try.prog 15 #[v, .int .i64 cap] w (NewAt W (newD fs cap)) :=
  (new_any w v fs h hok cap).mono (fun e w' hd => by
    unfold NewDid at hd
    unfold NewAt
    refine ⟨hk.trans hd.1, ?_⟩
    cases hr : newD fs cap with
    | none => rw [hr] at hd; exact hd.2
    | some d =>
      rw [hr] at hd
      obtain ⟨g, h1, h2⟩ := hd.2
      exact ⟨g, h1, h2.tight.wide (fun y hy => ⟨Nat.le_trans hk.size hy.1, hy.2⟩)⟩)
end
end Vd
end Go.Proofs.Ytohchhgheeolpaa

/- law04's awake. -/
namespace Go.Proofs.Ytohchhgheeolpaa
open Go.RowKit
namespace Vd
open Go.Maps
def aw0 : Dsk := ⟨100, [], [], [], [], false, 0, (-1, 0), (-1, 0)⟩
def nA : Str := [97]
def aw1 : Dsk := (createD aw0 nA).1
def aw2 : Dsk := (appendD aw1 nA [120, 121, 122]).1
def aw3 : Dsk := (syncD aw2 nA).1
def aw4 : Dsk := { aw3 with crash := setT 0 11 }
def aw5 : Dsk := (syncDirD aw4).1
def aw6 (t : Int) : Dsk := (bootD aw5 t []).1
theorem aw0_new : newD [] 100 = some aw0 := by kernel_rfl
theorem aw0_few : Few aw0 0 := ⟨by decide, by decide, by decide, by decide, by intro y hy; exact absurd hy (List.not_mem_nil), by decide, by decide⟩
theorem aw1_e : (createD aw0 nA).2 = 0 := by kernel_rfl
theorem aw2_e : (appendD aw1 nA [120, 121, 122]).2 = 0 := by kernel_rfl
theorem aw3_e : (syncD aw2 nA).2 = 0 := by kernel_rfl
theorem aw5_e : (syncDirD aw4).2 = 11 := by kernel_rfl
theorem aw5_off : aw5.off = true := by kernel_rfl
theorem aw6_e (t : Int) : (bootD aw5 t []).2 = 0 := by unfold bootD; rw [aw5_off]; rfl
theorem aw6_0 : textD (aw6 0) nA = ([], 7) := by kernel_rfl
theorem aw6_1 : textD (aw6 1) nA = ([120, 121, 122], 0) := by kernel_rfl
theorem wf64 {x : Int} (h : -9223372036854775808 ≤ x ∧ x ≤ 9223372036854775807) : (Lit.int .i64 x).wf = true := by simpa [Lit.wf, IntKind.min, IntKind.max, IntKind.signed, IntKind.bits] using h
theorem rowS_none (w : World) : RowS w 2 (.slice none 0 0) ([] : List FileX).length ([].flatMap fileC) := ⟨rfl, .inl ⟨none, 0, rfl, rfl, Nat.zero_le _, fun _ => rfl⟩⟩
theorem row_modsB {w w' : World} {T : Nat → Prop} {b n c : Nat} {l : List Value} (h : Row w (.slice (some ⟨b, 0, none⟩) n c) l) (hm : Mods T w w') (hn : ¬ T b) : Row w' (.slice (some ⟨b, 0, none⟩) n c) l := by
  rcases h with h | ⟨b', off, cap, hv, h1, h2, h3⟩
  · exact .inl h
  · simp only [Value.slice.injEq, Option.some.injEq, Addr.mk.injEq] at hv
    obtain ⟨⟨rfl, rfl, -⟩, rfl, rfl⟩ := hv
    exact .inr ⟨_, _, _, rfl, h1, h2, fun i x hx => hm.cell (h3 i x hx) hn⟩
/-- a row in a block that is none of the disk's -/
theorem At.lit {W w w1 : World} {g : Nat} {d : Dsk} {k : Nat} (_ : At W w g d k) {b n c : Nat} {l : List Value} (hr : Row w1 (.slice (some ⟨b, 0, none⟩) n c) l) (hw : w.heap.size ≤ b) : ∀ w', Mods (Rng W.heap.size w) w1 w' → Row w' (.slice (some ⟨b, 0, none⟩) n c) l := fun _ hm =>
  row_modsB hr hm (fun e => by have := e.2; omega)
set_option maxRecDepth 100000 in
set_option maxHeartbeats 4000000 in
theorem awake04_any (w : World) : Calls Try.prog 14 #[] w fun e w' => e = .returned (.bool true) ∧ Keeps w w' := by
  go_enter Try.func14, Try.ntmps14
  go_wp2_with fail
  go_loopw [1] (fun ix wr => ∃ j : Nat, ix = .int .i64 (j : Int) ∧ j ≤ 2 ∧ Hid (Keeps w wr)) (fun ix _ => 2 - (RowKit.intOf ix).toNat)
  case atStart => exact ⟨0, rfl, by omega, Lib.hid (Keeps.refl _)⟩
  case round =>
    obtain ⟨j, rfl, hj, HK⟩ := hrel
    by_cases hlt : j < 2
    · have hlt' : (j : Int) < 2 := by omega
      have HNW := Lib.hid (new_at HK.out (.slice none 0 0) [] (rowS_none _) (fun f hf => absurd hf (List.not_mem_nil)) 100)
      unfold NewAt at HNW
      rw [aw0_new] at HNW
      go_wp2_with fail
      refine HNW.out.mono ?_
      rintro e w1 ⟨hk, g, rfl, hd⟩
      have H0 := Lib.hid (show At w w1 g aw0 0 from ⟨hd, hk, aw0_few⟩)
      clear hd hk HNW
      have HC := Lib.hid (create_at H0.out (by omega) nA (by decide))
      rw [aw1_e] at HC
      unfold nA at HC
      go_wp2_with fail
      refine HC.out.mono ?_
      rintro e w2 ⟨rfl, h1⟩
      have H1 := Lib.hid (show At w w2 g aw1 1 from h1)
      clear h1 HC
      have HAP := Lib.hid (append_at (w1 := w2.alloc (.cells #[.int .u8 120, .int .u8 121, .int .u8 122] 5 (3, 4))) H1.out (by omega) ((Keeps.refl _).alloc _) nA (by decide) (bv := .slice (some ⟨w2.heap.size, 0, none⟩) 3 3) (b := [120, 121, 122]) (H1.out.lit (Frm.row_mark (l := [120, 121, 122].map u8v) rfl rfl (by decide)) (Nat.le_refl _)) (by decide))
      rw [aw2_e] at HAP
      unfold nA at HAP
      have kc := fun (w : World) (C : Array Value) (n c : Nat) => Lib.run_convert_bytes_const (P := Try.prog) w 22 5 C n c Try.underlying22 Try.underlying5
      go_wp2_with fail
      refine HAP.out.mono ?_
      rintro e w3 ⟨rfl, h2⟩
      have H2 := Lib.hid (show At w w3 g aw2 2 from h2)
      clear h2 HAP
      have HSY := Lib.hid (sync_at H2.out (by omega) nA (by decide))
      rw [aw3_e] at HSY
      unfold nA at HSY
      go_wp2_with fail
      refine HSY.out.mono ?_
      rintro e w4 ⟨rfl, h3⟩
      have H3 := Lib.hid (show At w w4 g aw3 3 from h3)
      clear h3 HSY
      have HCR := Lib.hid (crash_at H3.out 0)
      go_wp2_with fail
      refine HCR.out.mono ?_
      rintro e w5 ⟨rfl, h4⟩
      have H4 := Lib.hid (show At w w5 g aw4 3 from h4)
      clear h4 HCR
      have HSD := Lib.hid (syncDir_at H4.out (by omega))
      rw [aw5_e] at HSD
      go_wp2_with fail
      refine HSD.out.mono ?_
      rintro e w6 ⟨rfl, h5⟩
      have H5 := Lib.hid (show At w w6 g aw5 4 from h5)
      clear h5 HSD
      have HDN := Lib.hid (down_at H5.out)
      rw [aw5_off] at HDN
      go_wp2_with fail
      refine HDN.out.mono ?_
      rintro e w7 ⟨rfl, rfl⟩
      have HBT := Lib.hid (boot_at H5.out (by omega) (j : Int) (wf64 (by omega)) (kv := .slice none 0 0) (keep := []) (fun w' _ => row_nil w'))
      rw [aw6_e] at HBT
      clear HDN
      go_wp2_with fail
      refine HBT.out.mono ?_
      rintro e w8 ⟨rfl, h6⟩
      have H6 := Lib.hid (show At w w8 g (aw6 j) 8 from h6)
      clear h6 HBT
      have HRD := Lib.hid (read_at H6.out nA (by decide))
      unfold ReadDid at HRD
      rcases (show j = 0 ∨ j = 1 by omega) with rfl | rfl
      · rw [show textD (aw6 ((0 : Nat) : Int)) nA = ([], 7) from aw6_0] at HRD
        unfold nA at HRD
        go_wp2_with fail
        refine HRD.out.mono ?_
        rintro e w9 ⟨v, rfl, -, hk⟩
        have HK9 := Lib.hid (H6.out.keep.trans hk)
        clear hk HRD
        go_wp2_with fail
        go_roundw
        case rel => exact ⟨1, by simp, by omega, HK9⟩
        case measure => simp [RowKit.intOf]
      · rw [show textD (aw6 ((1 : Nat) : Int)) nA = ([120, 121, 122], 0) from aw6_1] at HRD
        unfold nA at HRD
        go_wp2_with fail
        refine HRD.out.mono ?_
        rintro e w9 ⟨v, rfl, hr, hk⟩
        have HK9 := Lib.hid (H6.out.keep.trans hk)
        have hc := Frm.str_at' hr
        clear hk HRD
        have hb : (!(bstr [120, 121, 122]).toList == [120, 121, 122]) = false := by rw [bstr_toList]; rfl
        go_wp2_with fail
        go_roundw
        case rel => exact ⟨2, by simp, by omega, HK9⟩
        case measure => simp [RowKit.intOf]
    · obtain rfl : j = 2 := by omega
      go_wp2_with fail
      go_ret
      exact ⟨rfl, HK.out⟩
end Vd
end Go.Proofs.Ytohchhgheeolpaa

/- VdiskReads: its walk. -/
namespace Go.Proofs.Ytohchhgheeolpaa
open Go.RowKit
namespace Vd
open Go.Maps
theorem bstr_of (s : ByteArray) : ∃ x : Str, s = bstr x := ⟨s.data.toList, by simp [bstr]⟩
/-- a slice of one file, made of its parts -/
theorem rowS_one {w : World} {b : Nat} {t : TypeId} (f : FileX) (h : Blk w b t (fileA f)) : RowS w 2 (.slice (some ⟨b, 0, none⟩) 1 1) [f].length ([f].flatMap fileC) :=
  ⟨rfl, .inr ⟨b, 0, 1, rfl, Nat.le_refl _, by decide, fun i x hx => by
    rw [Nat.zero_add, h.cell]
    simpa [fileC] using hx⟩⟩
def oneD (cap : Int) (x l : Str) : Dsk := ⟨cap, [madeN l], [(x, 0)], [(x, 0)], [], false, 0, (-1, 0), (-1, 0)⟩
theorem newD_one {cap : Int} (h1 : 1 ≤ cap) (h2 : cap ≤ 4194304) {x l : Str} {v : Value} (hx : namedB x = true) (hl : (l.length : Int) ≤ cap) : newD [(x, l, v)] cap = some (oneD cap x l) := by
  unfold newD
  rw [if_neg (by simp; omega), newF_cons, if_neg (by simp [look]), if_neg (by simp [hx]), if_neg (by simp [bytesN]; omega)]
  simp [newF, putN, oneD]
theorem oneD_few (cap : Int) (x l : Str) : Few (oneD cap x l) 1 := ⟨by show (0 : Int) ≤ 0; omega, by show (0 : Int) ≤ 1; omega, Nat.zero_le _, Nat.le_refl _, fun y hy => by simp [oneD] at hy; subst hy; exact Nat.zero_le _, Nat.le_refl _, Nat.le_refl _⟩
theorem oneD_text (cap : Int) (x l y : Str) : textD (oneD cap x l) y = if y = x then (l, 0) else ([], 7) := by
  unfold textD oneD
  simp only [Bool.false_eq_true, if_false]
  by_cases h : y = x
  · subst h
    simp [look, madeN]
  · rw [if_neg h]
    have : ¬ x = y := fun e => h e.symm
    simp [look, this]
theorem readAtD_ok {d : Dsk} {x l : Str} (h : textD d x = (l, 0)) (a n : Int) : readAtD d x a n = if a < 0 ∨ n < 0 then ([], 1) else if (l.length : Int) < a ∨ (l.length : Int) - a < n then ([], 2) else ((l.drop a.toNat).take n.toNat, 0) := by
  unfold readAtD
  rw [h]
  rfl
theorem named_a : namedB [97] = true := by kernel_rfl
theorem named_s : namedB [115] = true := by kernel_rfl
theorem named_n : namedB [110] = true := by kernel_rfl
set_option maxRecDepth 100000 in
set_option maxHeartbeats 4000000 in
theorem vdiskReads_walk (W : World) (v0 : Value) (l : List UInt8) (a n : Int) (s : ByteArray) (r0 : Row W v0 (l.map u8v)) (w1 : (Lit.int .i64 a).wf = true) (w2 : (Lit.int .i64 n).wf = true) (w3 : s.size ≤ maxLen) :
    Calls Try.prog 3 #[v0, .int .i64 a, .int .i64 n, .string s] W fun e w' => e = .returned (.bool true) ∧ Keeps W w' := by
  obtain ⟨x, rfl⟩ := bstr_of s
  obtain ⟨p0, c0, rfl, hl1, hl2⟩ := r0.formB
  have HR := Lib.hid r0
  have hab : -9223372036854775808 ≤ a ∧ a ≤ 9223372036854775807 := by simpa [Lit.wf, IntKind.min, IntKind.max, IntKind.signed, IntKind.bits] using w1
  have hnb : -9223372036854775808 ≤ n ∧ n ≤ 9223372036854775807 := by simpa [Lit.wf, IntKind.min, IntKind.max, IntKind.signed, IntKind.bits] using w2
  have HWF := Lib.hid (And.intro w1 w2)
  have hsz := bstr_size x
  rw [hsz] at w3
  have HAW := Lib.hid (awake04_any W)
  clear r0 w1 w2
  go_enter Try.func3, Try.ntmps3
  go_wp2_with fail
  refine HAW.out.mono ?_
  rintro e w1 ⟨rfl, hk1⟩
  have HK1 := Lib.hid hk1
  clear hk1 HAW
  by_cases h3 : 300 < l.length
  · go_wp2_with fail
    go_ret
    exact ⟨rfl, HK1.out⟩
  · by_cases h4 : 100 < x.length
    · go_wp2_with fail
      go_ret
      exact ⟨rfl, HK1.out⟩
    · have HNW := Lib.hid (fun w2 (hb : Blk w2 w1.heap.size 27 (fileA ([97], l, .slice p0 l.length c0))) (k : Keeps W w2) => new_at k (.slice (some ⟨w1.heap.size, 0, none⟩) 1 1) [([97], l, .slice p0 l.length c0)] (rowS_one _ hb) (fun f hf => by
        simp at hf
        subst hf
        exact ⟨HR.out.keeps k, by show 1 ≤ 9000000000000000000; omega⟩) 1000)
      unfold NewAt at HNW
      rw [newD_one (by omega) (by omega) named_a (by omega)] at HNW
      go_wp2_with fail
      refine (HNW.out _ (Blk.new _ _ _ rfl) (HK1.out.alloc _)).mono ?_
      rintro e w2 ⟨hk, g, rfl, hd⟩
      have HD := Lib.hid (show At W w2 g (oneD 1000 [97] l) 1 from ⟨hd, hk, oneD_few _ _ _⟩)
      clear hd hk HNW
      have HRA := Lib.hid (readAt_at HD.out x w3 a n HWF.out.1 HWF.out.2)
      unfold ReadDid at HRA
      clear hsz
      by_cases hx : x = [97]
      · subst hx
        have hb : (!(bstr [97]).toList == [97]) = false := by rw [bstr_toList]; rfl
        have htx : textD (oneD 1000 [97] l) [97] = (l, 0) := by rw [oneD_text, if_pos rfl]
        by_cases ha : a < 0
        · have HT := Lib.hid htx
          clear htx
          rw [show readAtD (oneD 1000 [97] l) [97] a n = ([], 1) from by rw [readAtD_ok HT.out, if_pos (.inl ha)]] at HRA
          go_wp2_with fail
          refine HRA.out.mono ?_
          rintro e w3 ⟨v, rfl, hr, hk⟩
          obtain ⟨pv, cv, rfl, -, -⟩ := hr.formB
          have HE := Lib.hid (HD.out.keep.trans hk)
          clear hr hk HRA
          go_wp2_with fail
          go_ret
          exact ⟨rfl, HE.out⟩
        · by_cases hn : n < 0
          · have HT := Lib.hid htx
            clear htx
            rw [show readAtD (oneD 1000 [97] l) [97] a n = ([], 1) from by rw [readAtD_ok HT.out, if_pos (.inr hn)]] at HRA
            go_wp2_with fail
            refine HRA.out.mono ?_
            rintro e w3 ⟨v, rfl, hr, hk⟩
            obtain ⟨pv, cv, rfl, -, -⟩ := hr.formB
            have HE := Lib.hid (HD.out.keep.trans hk)
            clear hr hk HRA
            go_wp2_with fail
            go_ret
            exact ⟨rfl, HE.out⟩
          · obtain ⟨A, rfl⟩ : ∃ A : Nat, a = A := ⟨a.toNat, by omega⟩
            obtain ⟨N, rfl⟩ : ∃ N : Nat, n = N := ⟨n.toNat, by omega⟩
            have hw1 : IntKind.i64.wrap ((l.length : Int) - (A : Int)) = (l.length : Int) - (A : Int) := by rw [IntKind.wrap_i64]; omega
            by_cases hA : (l.length : Int) < (A : Int)
            · have HT := Lib.hid htx
              clear htx
              rw [show readAtD (oneD 1000 [97] l) [97] A N = ([], 2) from by rw [readAtD_ok HT.out, if_neg (by omega), if_pos (by omega)]] at HRA
              go_wp2_with fail
              refine HRA.out.mono ?_
              rintro e w3 ⟨v, rfl, hr, hk⟩
              obtain ⟨pv, cv, rfl, -, -⟩ := hr.formB
              have HE := Lib.hid (HD.out.keep.trans hk)
              clear hr hk HRA
              go_wp2_with fail
              go_ret
              exact ⟨rfl, HE.out⟩
            · by_cases hN : (l.length : Int) - (A : Int) < (N : Int)
              · have HT := Lib.hid htx
                clear htx
                rw [show readAtD (oneD 1000 [97] l) [97] A N = ([], 2) from by rw [readAtD_ok HT.out, if_neg (by omega), if_pos (by omega)]] at HRA
                go_wp2_with fail
                refine HRA.out.mono ?_
                rintro e w3 ⟨v, rfl, hr, hk⟩
                obtain ⟨pv, cv, rfl, -, -⟩ := hr.formB
                have HE := Lib.hid (HD.out.keep.trans hk)
                clear hr hk HRA
                go_wp2_with fail
                go_ret
                exact ⟨rfl, HE.out⟩
              · have HT := Lib.hid htx
                clear htx
                rw [show readAtD (oneD 1000 [97] l) [97] A N = ((l.drop A).take N, 0) from by rw [readAtD_ok HT.out, if_neg (by omega), if_neg (by omega)]; rfl] at HRA
                generalize hgl : (l.drop A).take N = gl at HRA
                go_wp2_with fail
                refine HRA.out.mono ?_
                rintro e w3 ⟨v, rfl, hr, hk⟩
                have HE := Lib.hid (HD.out.keep.trans hk)
                have HRG := Lib.hid hr
                have HR3 := Lib.hid (HR.out.keeps HE.out)
                obtain ⟨pv, cv, rfl, -, -⟩ := hr.formB
                obtain ⟨H, hH⟩ : ∃ H, H = A + N := ⟨_, rfl⟩
                have hw2 : IntKind.i64.wrap ((A : Int) + (N : Int)) = (H : Int) := by rw [IntKind.wrap_i64]; omega
                have hcutb : ∀ w', (Instr.slice 22 (.slice p0 l.length c0) (some (.int .i64 (A : Int))) (some (.int .i64 (H : Int))) none).run Try.prog w' = .ok (cutv p0 A H c0) w' := fun w' => run_cut_lh w' Try.underlying22 (by intro w; kernel_rfl) p0 l.length c0 A H (by omega) (by omega)
                have HCB := Lib.hid (fun w' (k : Keeps w3 w') => show (convert 22 9 (cutv p0 A H c0)).run Try.prog w' = .ok (.string (bstr gl)) w' from by
                  have := (HR3.out.keeps k).cut (lo := A) (hi := H) (by omega) (by simp; omega)
                  rw [show H - A = N from by omega, ← List.map_drop, ← List.map_take, hgl] at this
                  exact Frm.str_at' this)
                have HCU := Lib.hid hcutb
                have bt := bstr_toList gl
                have hbe : ((bstr gl).toList == (bstr gl).toList) = true := by simp
                clear hr hk HRA hcutb hgl hH
                go_upto_region 15 with fail
                refine wp_region_noPanic ?_
                refine wp_region_held_drew (S := fun w' => Keeps (w3) w') (by kernel_rfl) ((Keeps.refl _).drew) (fun _ => ?_)
                have hHeld : Keeps (w3) (w3).drew := (Keeps.refl _).drew
                refine wpAnyH_take (i := 0) (v := ?vv1) (by rfl) (by kernel_rfl) (by kernel_rfl) (by kernel_rfl) (by intro _ _ _ h; exact h) (Or.inl ⟨by kernel_rfl, ?hy1⟩) (by assumption) ?rest1
                case hy1 =>
                  intro w' hSw
                  have hSw : Keeps _ w' := hSw
                  clear hSw
                  go_simp
                  try with_reducible rfl
                change wpAnyH _ _ _ _ _ _ _ (Act.put _ (some 77) _) _
                try simp only [Act.put, List.setIfInBounds_toArray, List.set_cons_zero, List.set_cons_succ]
                refine wpAnyH_take (i := 1) (v := ?vv2) (by rfl) (by kernel_rfl) (by kernel_rfl) (by kernel_rfl) (by intro _ _ _ h; exact h) (Or.inl ⟨by kernel_rfl, ?hy2⟩) (by assumption) ?rest2
                case hy2 =>
                  intro w' hSw
                  have hSw : Keeps _ w' := hSw
                  clear hSw
                  go_simp
                  try with_reducible rfl
                change wpAnyH _ _ _ _ _ _ _ (Act.put _ (some 78) _) _
                try simp only [Act.put, List.setIfInBounds_toArray, List.set_cons_zero, List.set_cons_succ]
                refine wpAnyH_take (i := 2) (v := ?vv3) (by rfl) (by kernel_rfl) (by kernel_rfl) (by kernel_rfl) (by intro _ _ _ h; exact h) (Or.inl ⟨by kernel_rfl, ?hy3⟩) (by assumption) ?rest3
                case hy3 =>
                  intro w' hSw
                  have hSw : Keeps _ w' := hSw
                  clear hSw
                  go_simp
                  try with_reducible rfl
                change wpAnyH _ _ _ _ _ _ _ (Act.put _ (some 79) _) _
                try simp only [Act.put, List.setIfInBounds_toArray, List.set_cons_zero, List.set_cons_succ]
                refine wpAnyH_take (i := 3) (v := ?vv4) (by rfl) (by kernel_rfl) (by kernel_rfl) (by kernel_rfl) (by intro _ _ _ h; exact h) (Or.inl ⟨by kernel_rfl, ?hy4⟩) (by assumption) ?rest4
                case hy4 =>
                  intro w' hSw
                  have hSw : Keeps _ w' := hSw
                  clear hSw
                  go_simp
                  try with_reducible rfl
                change wpAnyH _ _ _ _ _ _ _ (Act.put _ (some 80) _) _
                try simp only [Act.put, List.setIfInBounds_toArray, List.set_cons_zero, List.set_cons_succ]
                refine wpAnyH_take (i := 4) (v := ?vv5) (by rfl) (by kernel_rfl) (by kernel_rfl) (by kernel_rfl) (by intro _ _ _ h; exact h) (Or.inl ⟨by kernel_rfl, ?hy5⟩) (by assumption) ?rest5
                case hy5 =>
                  intro w' hSw
                  have hSw : Keeps _ w' := hSw
                  have hc := Frm.str_at' (HRG.out.keeps hSw)
                  clear hSw
                  go_simp
                  try with_reducible rfl
                change wpAnyH _ _ _ _ _ _ _ (Act.put _ (some 81) _) _
                try simp only [Act.put, List.setIfInBounds_toArray, List.set_cons_zero, List.set_cons_succ]
                refine wpAnyH_take (i := 5) (v := ?vv6) (by rfl) (by kernel_rfl) (by kernel_rfl) (by kernel_rfl) (by intro _ _ _ h; exact h) (Or.inl ⟨by kernel_rfl, ?hy6⟩) (by assumption) ?rest6
                case hy6 =>
                  intro w' hSw
                  have hSw : Keeps _ w' := hSw
                  clear hSw
                  go_simp
                  try with_reducible rfl
                change wpAnyH _ _ _ _ _ _ _ (Act.put _ (some 82) _) _
                try simp only [Act.put, List.setIfInBounds_toArray, List.set_cons_zero, List.set_cons_succ]
                refine wpAnyH_take (i := 6) (v := ?vv7) (by rfl) (by kernel_rfl) (by kernel_rfl) (by kernel_rfl) (by intro _ _ _ h; exact h) (Or.inl ⟨by kernel_rfl, ?hy7⟩) (by assumption) ?rest7
                case hy7 =>
                  intro w' hSw
                  have hSw : Keeps _ w' := hSw
                  clear hSw
                  go_simp
                  try with_reducible rfl
                change wpAnyH _ _ _ _ _ _ _ (Act.put _ (some 83) _) _
                try simp only [Act.put, List.setIfInBounds_toArray, List.set_cons_zero, List.set_cons_succ]
                refine wpAnyH_take (i := 7) (v := ?vv8) (by rfl) (by kernel_rfl) (by kernel_rfl) (by kernel_rfl) (by intro _ _ _ h; exact h) (Or.inl ⟨by kernel_rfl, ?hy8⟩) (by assumption) ?rest8
                case hy8 =>
                  intro w' hSw
                  have hSw : Keeps _ w' := hSw
                  clear hSw
                  go_simp
                  try with_reducible rfl
                change wpAnyH _ _ _ _ _ _ _ (Act.put _ (some 84) _) _
                try simp only [Act.put, List.setIfInBounds_toArray, List.set_cons_zero, List.set_cons_succ]
                refine wpAnyH_take (i := 8) (v := ?vv9) (by rfl) (by kernel_rfl) (by kernel_rfl) (by kernel_rfl) (by intro _ _ _ h; exact h) (Or.inl ⟨by kernel_rfl, ?hy9⟩) (by assumption) ?rest9
                case hy9 =>
                  intro w' hSw
                  have hSw : Keeps _ w' := hSw
                  clear hSw
                  go_simp
                  try with_reducible rfl
                change wpAnyH _ _ _ _ _ _ _ (Act.put _ (some 85) _) _
                try simp only [Act.put, List.setIfInBounds_toArray, List.set_cons_zero, List.set_cons_succ]
                refine wpAnyH_take (i := 9) (v := ?vv10) (by rfl) (by kernel_rfl) (by kernel_rfl) (by kernel_rfl) (by intro _ _ _ h; exact h) (Or.inl ⟨by kernel_rfl, ?hy10⟩) (by assumption) ?rest10
                case hy10 =>
                  intro w' hSw
                  have hSw : Keeps _ w' := hSw
                  clear hSw
                  go_simp
                  try with_reducible rfl
                change wpAnyH _ _ _ _ _ _ _ (Act.put _ (some 86) _) _
                try simp only [Act.put, List.setIfInBounds_toArray, List.set_cons_zero, List.set_cons_succ]
                refine wpAnyH_take (i := 10) (v := ?vv11) (by rfl) (by kernel_rfl) (by kernel_rfl) (by kernel_rfl) (by intro _ _ _ h; exact h) (Or.inl ⟨by kernel_rfl, ?hy11⟩) (by assumption) ?rest11
                case hy11 =>
                  intro w' hSw
                  have hSw : Keeps _ w' := hSw
                  have hc := HCU.out w'
                  clear hSw
                  go_simp
                  try with_reducible rfl
                change wpAnyH _ _ _ _ _ _ _ (Act.put _ (some 87) _) _
                try simp only [Act.put, List.setIfInBounds_toArray, List.set_cons_zero, List.set_cons_succ]
                refine wpAnyH_take (i := 11) (v := ?vv12) (by rfl) (by kernel_rfl) (by kernel_rfl) (by kernel_rfl) (by intro _ _ _ h; exact h) (Or.inl ⟨by kernel_rfl, ?hy12⟩) (by assumption) ?rest12
                case hy12 =>
                  intro w' hSw
                  have hSw : Keeps _ w' := hSw
                  have hc := HCB.out w' hSw
                  clear hSw
                  go_simp
                  try with_reducible rfl
                change wpAnyH _ _ _ _ _ _ _ (Act.put _ (some 88) _) _
                try simp only [Act.put, List.setIfInBounds_toArray, List.set_cons_zero, List.set_cons_succ]
                refine wpAnyH_take (i := 12) (v := ?vv13) (by rfl) (by kernel_rfl) (by kernel_rfl) (by kernel_rfl) (by intro _ _ _ h; exact h) (Or.inl ⟨by kernel_rfl, ?hy13⟩) (by assumption) ?rest13
                case hy13 =>
                  intro w' hSw
                  have hSw : Keeps _ w' := hSw
                  clear hSw
                  go_simp
                  try with_reducible rfl
                change wpAnyH _ _ _ _ _ _ _ (Act.put _ (some 89) _) _
                try simp only [Act.put, List.setIfInBounds_toArray, List.set_cons_zero, List.set_cons_succ]
                refine wpAnyH_take (i := 13) (v := ?vv14) (by rfl) (by kernel_rfl) (by kernel_rfl) (by kernel_rfl) (by intro _ _ _ h; exact h) (Or.inl ⟨by kernel_rfl, ?hy14⟩) (by assumption) ?rest14
                case hy14 =>
                  intro w' hSw
                  have hSw : Keeps _ w' := hSw
                  clear hSw
                  go_simp
                  try with_reducible rfl
                change wpAnyH _ _ _ _ _ _ _ (Act.put _ (some 90) _) _
                try simp only [Act.put, List.setIfInBounds_toArray, List.set_cons_zero, List.set_cons_succ]
                refine wpAnyH_take (i := 14) (v := ?vv15) (by rfl) (by kernel_rfl) (by kernel_rfl) (by kernel_rfl) (by intro _ _ _ h; exact h) (Or.inl ⟨by kernel_rfl, ?hy15⟩) (by assumption) ?rest15
                case hy15 =>
                  intro w' hSw
                  have hSw : Keeps _ w' := hSw
                  clear hSw
                  go_simp
                  try with_reducible rfl
                change wpAnyH _ _ _ _ _ _ _ (Act.put _ (some 8) _) _
                try simp only [Act.put, List.setIfInBounds_toArray, List.set_cons_zero, List.set_cons_succ]
                refine wpAnyH_done (by kernel_rfl) ?_ _
                refine NoPanic.normal ?_
                have HF := Lib.hid (HE.out.trans (Keeps.refl w3).drew)
                go_wp2_with fail
                go_ret
                exact ⟨rfl, HF.out⟩
      · rw [show readAtD (oneD 1000 [97] l) x a n = ([], 7) from by unfold readAtD; rw [oneD_text, if_neg hx]; rfl] at HRA
        have hb : (!(bstr x).toList == [97]) = true := by rw [bstr_toList]; simpa using hx
        clear hx
        go_wp2_with fail
        refine HRA.out.mono ?_
        rintro e w3 ⟨v, rfl, hr, hk⟩
        obtain ⟨pv, cv, rfl, -, -⟩ := hr.formB
        have HE := Lib.hid (HD.out.keep.trans hk)
        clear hr hk HRA
        go_wp2_with fail
        go_ret
        exact ⟨rfl, HE.out⟩
end Vd
end Go.Proofs.Ytohchhgheeolpaa

/- A file that is written anew and renamed over the elder one, plain. -/
namespace Go.Proofs.Ytohchhgheeolpaa
open Go.RowKit
namespace Vd
theorem op_down {d d' : Dsk} (h : changeD d = (d', 11)) (x y b : Str) : createD d x = (d', 11) ∧ appendD d x b = (d', 11) ∧ syncD d x = (d', 11) ∧ renameD d x y = (d', 11) ∧ unlinkD d x = (d', 11) ∧ syncDirD d = (d', 11) := by
  have ht : touchD d x = (d', 0, 11) := by unfold touchD; rw [h]; rfl
  refine ⟨?_, ?_, ?_, ?_, ?_, ?_⟩
  · unfold createD; rw [h]; rfl
  · unfold appendD; rw [ht]; rfl
  · unfold syncD; rw [ht]; rfl
  · unfold renameD; rw [h]; rfl
  · unfold unlinkD; rw [ht]; rfl
  · unfold syncDirD; rw [h]; rfl
theorem change_off {d : Dsk} (h : d.off = true) : changeD d = (d, 11) := by unfold changeD; rw [if_pos h]
theorem change_crash {d : Dsk} (h : d.off = false) {k' : Int} (hk : springT d.crash.1 = (k', true)) : changeD d = ({ d with off := true, count := d.count + 1, fail := ((springT d.fail.1).1, d.fail.2), crash := (k', d.crash.2) }, 11) := by
  unfold changeD
  rw [if_neg (by simp [h]), hk, if_pos rfl]
theorem change_go {d : Dsk} (h : d.off = false) {k' f' : Int} (hk : springT d.crash.1 = (k', false)) (hf : springT d.fail.1 = (f', false)) : changeD d = ({ d with off := false, count := d.count + 1, fail := (f', d.fail.2), crash := (k', d.crash.2) }, 0) := by
  unfold changeD
  rw [if_neg (by simp [h]), hk, if_neg (by simp), hf, if_neg (by simp)]
theorem spring_neg : springT (-1) = (-1, false) := by decide
theorem spring_0 : springT 0 = (-1, true) := by decide
theorem spring_pos {n : Int} (h : 1 ≤ n) : springT n = (n - 1, false) := by
  unfold springT
  split
  · omega
  · simp; omega
theorem overL_nil (b : Str) : overL [] 0 b = b := by
  unfold overL
  simp
/-- the file s with its bytes, and what comes of a new one -/
def w1 (old : Str) (off : Bool) (n : Int) (k : Int × Int) : Dsk := ⟨1048576, [madeN old], [([115], 0)], [([115], 0)], [], off, n, (-1, 0), k⟩
def w2 (old : Str) (off : Bool) (n : Int) (k : Int × Int) : Dsk := ⟨1048576, [madeN old, newN], [([110], 1), ([115], 0)], [([115], 0)], [⟨1, [110], true⟩], off, n, (-1, 0), k⟩
def w3 (old new : Str) (off : Bool) (n : Int) (k : Int × Int) : Dsk := ⟨1048576, [madeN old, ⟨new, [], [⟨0, new⟩], true⟩], [([110], 1), ([115], 0)], [([115], 0)], [⟨1, [110], true⟩], off, n, (-1, 0), k⟩
def w4 (old new : Str) (off : Bool) (n : Int) (k : Int × Int) : Dsk := ⟨1048576, [madeN old, ⟨new, new, [], true⟩], [([110], 1), ([115], 0)], [([115], 0)], [⟨1, [110], true⟩], off, n, (-1, 0), k⟩
def w5 (old new : Str) (off : Bool) (n : Int) (k : Int × Int) : Dsk := ⟨1048576, [madeN old, ⟨new, new, [], true⟩], [([115], 1)], [([115], 0)], [⟨1, [110], true⟩, ⟨1, [115], false⟩], off, n, (-1, 0), k⟩
def w6 (old new : Str) (off : Bool) (n : Int) (k : Int × Int) : Dsk := ⟨1048576, [madeN old, ⟨new, new, [], false⟩], [([115], 1)], [([115], 1)], [], off, n, (-1, 0), k⟩
section
variable {old new : Str} {n : Int} {k : Int × Int} {k' : Int}
theorem w1_go (h : springT k.1 = (k', false)) : createD (w1 old false n k) [110] = (w2 old false (n + 1) (k', k.2), 0) := by
  have hc : changeD (w1 old false n k) = (w1 old false (n + 1) (k', k.2), 0) := change_go rfl h spring_neg
  unfold createD
  rw [hc]
  rfl
theorem w2_free (hl : old.length ≤ 1000) (hn : new.length ≤ 1000) : ¬ freeD (w2 old false n k) < ((overL [] 0 new).length : Int) - (([] : Str).length : Int) := by
  rw [overL_nil]
  simp [freeD, w2, bytesN, madeN, newN]
  omega
theorem w2_go (hl : old.length ≤ 1000) (hn : new.length ≤ 1000) (h : springT k.1 = (k', false)) : appendD (w2 old false n k) [110] new = (w3 old new false (n + 1) (k', k.2), 0) := by
  have hc : changeD (w2 old false n k) = (w2 old false (n + 1) (k', k.2), 0) := change_go rfl h spring_neg
  have ht : touchD (w2 old false n k) [110] = (w2 old false (n + 1) (k', k.2), 1, 0) := by
    unfold touchD
    rw [hc]
    kernel_rfl
  have hw : writeD (w2 old false (n + 1) (k', k.2)) 1 ⟨0, new⟩ = (w3 old new false (n + 1) (k', k.2), 0) := by
    unfold writeD
    rw [if_neg (by exact w2_free hl hn)]
    show (putD (w2 old false (n + 1) (k', k.2)) 1 (wroteN newN ⟨0, new⟩), (0 : Int)) = _
    unfold wroteN
    rw [show overL newN.seen (Pat.mk 0 new).place (Pat.mk 0 new).b = new from overL_nil new]
    kernel_rfl
  unfold appendD
  rw [ht]
  exact hw
theorem w3_go (h : springT k.1 = (k', false)) : syncD (w3 old new false n k) [110] = (w4 old new false (n + 1) (k', k.2), 0) := by
  have hc : changeD (w3 old new false n k) = (w3 old new false (n + 1) (k', k.2), 0) := change_go rfl h spring_neg
  have ht : touchD (w3 old new false n k) [110] = (w3 old new false (n + 1) (k', k.2), 1, 0) := by
    unfold touchD
    rw [hc]
    kernel_rfl
  unfold syncD
  rw [ht]
  rfl
theorem w4_go (h : springT k.1 = (k', false)) : renameD (w4 old new false n k) [110] [115] = (w5 old new false (n + 1) (k', k.2), 0) := by
  have hc : changeD (w4 old new false n k) = (w4 old new false (n + 1) (k', k.2), 0) := change_go rfl h spring_neg
  unfold renameD
  rw [hc]
  rfl
theorem w5_go (h : springT k.1 = (k', false)) : syncDirD (w5 old new false n k) = (w6 old new false (n + 1) (k', k.2), 0) := by
  have hc : changeD (w5 old new false n k) = (w5 old new false (n + 1) (k', k.2), 0) := change_go rfl h spring_neg
  unfold syncDirD
  rw [hc]
  rfl
variable {t : Int} {ks : List Int}
theorem w1_boot : textD (bootD (w1 old true n k) t ks).1 [115] = (old, 0) := by
  unfold bootD
  generalize t.toNat = m
  rcases m with _ | m <;> kernel_rfl
theorem w2_boot : textD (bootD (w2 old true n k) t ks).1 [115] = (old, 0) := by
  unfold bootD
  generalize t.toNat = m
  rcases m with _ | _ | m <;> kernel_rfl
theorem w3_boot : textD (bootD (w3 old new true n k) t ks).1 [115] = (old, 0) := by
  unfold bootD
  generalize t.toNat = m
  rcases m with _ | _ | m <;> kernel_rfl
theorem w4_boot : textD (bootD (w4 old new true n k) t ks).1 [115] = (old, 0) := by
  unfold bootD
  generalize t.toNat = m
  rcases m with _ | _ | m <;> kernel_rfl
theorem w5_boot : textD (bootD (w5 old new true n k) t ks).1 [115] = (old, 0) ∨ textD (bootD (w5 old new true n k) t ks).1 [115] = (new, 0) := by
  unfold bootD
  generalize t.toNat = m
  rcases m with _ | _ | _ | m
  · exact .inl (by kernel_rfl)
  · exact .inl (by kernel_rfl)
  · exact .inr (by kernel_rfl)
  · exact .inr (by kernel_rfl)
theorem w6_boot : textD (bootD (w6 old new true n k) t ks).1 [115] = (new, 0) := by
  unfold bootD
  generalize t.toNat = m
  rcases m with _ | _ | m <;> kernel_rfl
end
/-- the disk behind the steps, and what the last one answered -/
def swD (old new : Str) (c : Int) : Dsk × Int :=
  syncDirD (renameD (syncD (appendD (createD { oneD 1048576 [115] old with crash := setT c 11 } [110]).1 [110] new).1 [110]).1 [110] [115]).1
theorem off_all {d : Dsk} (h : d.off = true) (x y b : Str) : createD d x = (d, 11) ∧ appendD d x b = (d, 11) ∧ syncD d x = (d, 11) ∧ renameD d x y = (d, 11) ∧ unlinkD d x = (d, 11) ∧ syncDirD d = (d, 11) := op_down (change_off h) x y b
theorem sw_cases (old new : Str) (hl : old.length ≤ 1000) (hn : new.length ≤ 1000) (c : Int) : (∃ n k, swD old new c = (w6 old new false n k, 0)) ∨ (swD old new c).2 = 11 ∧ (swD old new c).1.off = true ∧ ∀ t ks, textD (bootD (swD old new c).1 t ks).1 [115] = (old, 0) ∨ textD (bootD (swD old new c).1 t ks).1 [115] = (new, 0) := by
  have h0 : { oneD 1048576 [115] old with crash := setT c 11 } = w1 old false 0 (setT c 11) := rfl
  unfold swD
  rw [h0]
  have hin := (setT_in c 11).1
  generalize setT c 11 = k at *
  -- where it crashes
  have neg : ∀ {x : Int}, x = -1 → springT x = (-1, false) := fun e => by rw [e]; exact spring_neg
  have step : ∀ x : Int, -1 ≤ x → springT x = (-1, true) ∨ ∃ y, -1 ≤ y ∧ springT x = (y, false) := fun x hx => by
    rcases (show x = -1 ∨ x = 0 ∨ 1 ≤ x by omega) with e | e | e
    · exact .inr ⟨-1, by omega, neg e⟩
    · rw [e]; exact .inl spring_0
    · exact .inr ⟨x - 1, by omega, spring_pos e⟩
  rcases step k.1 hin with h1 | ⟨k1, hk1, h1⟩
  · rw [(op_down (change_crash (d := w1 old false 0 k) rfl h1) [110] [115] new).1]
    simp only [w1]
    rw [(off_all rfl [110] [115] new).2.1]
    rw [(off_all rfl [110] [115] new).2.2.1]
    rw [(off_all rfl [110] [115] new).2.2.2.1]
    rw [(off_all rfl [110] [115] new).2.2.2.2.2]
    exact .inr ⟨rfl, rfl, fun t ks => .inl w1_boot⟩
  rw [w1_go h1]
  rcases step k1 hk1 with h2 | ⟨k2, hk2, h2⟩
  · rw [(op_down (change_crash (d := w2 old false (0 + 1) (k1, k.2)) rfl h2) [110] [115] new).2.1]
    simp only [w2]
    rw [(off_all rfl [110] [115] new).2.2.1]
    rw [(off_all rfl [110] [115] new).2.2.2.1]
    rw [(off_all rfl [110] [115] new).2.2.2.2.2]
    exact .inr ⟨rfl, rfl, fun t ks => .inl w2_boot⟩
  rw [w2_go hl hn h2]
  rcases step k2 hk2 with h3 | ⟨k3, hk3, h3⟩
  · rw [(op_down (change_crash (d := w3 old new false (0 + 1 + 1) (k2, k.2)) rfl h3) [110] [115] new).2.2.1]
    simp only [w3]
    rw [(off_all rfl [110] [115] new).2.2.2.1]
    rw [(off_all rfl [110] [115] new).2.2.2.2.2]
    exact .inr ⟨rfl, rfl, fun t ks => .inl w3_boot⟩
  rw [w3_go h3]
  rcases step k3 hk3 with h4 | ⟨k4, hk4, h4⟩
  · rw [(op_down (change_crash (d := w4 old new false (0 + 1 + 1 + 1) (k3, k.2)) rfl h4) [110] [115] new).2.2.2.1]
    simp only [w4]
    rw [(off_all rfl [110] [115] new).2.2.2.2.2]
    exact .inr ⟨rfl, rfl, fun t ks => .inl w4_boot⟩
  rw [w4_go h4]
  rcases step k4 hk4 with h5 | ⟨k5, hk5, h5⟩
  · rw [(op_down (change_crash (d := w5 old new false (0 + 1 + 1 + 1 + 1) (k4, k.2)) rfl h5) [110] [115] new).2.2.2.2.2]
    exact .inr ⟨rfl, rfl, fun t ks => w5_boot⟩
  rw [w5_go h5]
  exact .inl ⟨_, _, rfl⟩
/-- behind the last one's crash -/
theorem sw_last (old new : Str) (n : Int) (k : Int × Int) : ∃ n' k', (syncDirD { w6 old new false n k with crash := setT 0 11 }).1 = w6 old new true n' k' := by
  have h : syncDirD { w6 old new false n k with crash := setT 0 11 } = ({ w6 old new false n k with off := true, count := n + 1, fail := ((springT (-1)).1, 0), crash := (-1, 11) }, 11) := (op_down (change_crash (d := { w6 old new false n k with crash := setT 0 11 }) rfl spring_0) [] [] []).2.2.2.2.2
  rw [h]
  exact ⟨_, _, rfl⟩
end Vd
end Go.Proofs.Ytohchhgheeolpaa

/- VdiskSwaps: its walk. -/
namespace Go.Proofs.Ytohchhgheeolpaa
open Go.RowKit
namespace Vd
open Go.Maps
theorem boot_e {d : Dsk} (h : d.off = true) (t : Int) (ks : List Int) : (bootD d t ks).2 = 0 := by
  unfold bootD
  rw [if_neg (by simp [h])]
set_option maxRecDepth 100000 in
set_option maxHeartbeats 4000000 in
theorem vdiskSwaps_walk (W : World) (v0 : Value) (old : List UInt8) (v1 : Value) (new : List UInt8) (c t : Int) (v4 : Value) (ks : List Int) (r0 : Row W v0 (old.map u8v)) (r1 : Row W v1 (new.map u8v)) (_w2 : (Lit.int .i64 c).wf = true) (w3 : (Lit.int .i64 t).wf = true) (_w4 : ∀ x ∈ ks, (Lit.int .i64 x).wf = true) (r4 : Row W v4 (ks.map (.int .i64))) :
    Calls Try.prog 4 #[v0, v1, .int .i64 c, .int .i64 t, v4] W fun e w' => e = .returned (.bool true) ∧ Keeps W w' := by
  obtain ⟨p0, c0, rfl, -, -⟩ := r0.formB
  obtain ⟨p1, c1, rfl, -, -⟩ := r1.formB
  have HR0 := Lib.hid r0
  have HR1 := Lib.hid r1
  have HR4 := Lib.hid r4
  obtain ⟨p4, c4, rfl, -, -⟩ := r4.form
  have hkl : (ks.map (Value.int .i64)).length = ks.length := by simp
  rw [hkl] at HR4 ⊢
  have HWF := Lib.hid w3
  have HAW := Lib.hid (awake04_any W)
  clear r0 r1 r4 w3 _w2 _w4 hkl
  go_enter Try.func4, Try.ntmps4
  go_wp2_with fail
  refine HAW.out.mono ?_
  rintro e w1 ⟨rfl, hk1⟩
  have HK1 := Lib.hid hk1
  clear hk1 HAW
  by_cases h1 : 1000 < old.length
  · go_wp2_with fail
    go_ret
    exact ⟨rfl, HK1.out⟩
  by_cases h2 : 1000 < new.length
  · go_wp2_with fail
    go_ret
    exact ⟨rfl, HK1.out⟩
  by_cases h3 : 100 < ks.length
  · go_wp2_with fail
    go_ret
    exact ⟨rfl, HK1.out⟩
  have HNW := Lib.hid (fun w2 (hb : Blk w2 w1.heap.size 27 (fileA ([115], old, .slice p0 old.length c0))) (k : Keeps W w2) => new_at k (.slice (some ⟨w1.heap.size, 0, none⟩) 1 1) [([115], old, .slice p0 old.length c0)] (rowS_one _ hb) (fun f hf => by
    simp at hf
    subst hf
    exact ⟨HR0.out.keeps k, by show 1 ≤ 9000000000000000000; omega⟩) 1048576)
  unfold NewAt at HNW
  rw [newD_one (by omega) (by omega) named_s (by omega)] at HNW
  go_wp2_with fail
  refine (HNW.out _ (Blk.new _ _ _ rfl) (HK1.out.alloc _)).mono ?_
  rintro e w2 ⟨hk, g, rfl, hd⟩
  have HD := Lib.hid (show At W w2 g (oneD 1048576 [115] old) 1 from ⟨hd, hk, oneD_few _ _ _⟩)
  have HSC := Lib.hid (sw_cases old new (by omega) (by omega) c)
  have HCR := Lib.hid (crash_at HD.out c)
  clear hd hk HNW
  go_wp2_with fail
  refine HCR.out.mono ?_
  rintro e w3 ⟨rfl, h3'⟩
  have H3 := Lib.hid h3'
  clear h3' HCR HD
  have HC := Lib.hid (create_at H3.out (by omega) [110] (by decide))
  unfold swD at HSC
  generalize ({ oneD 1048576 [115] old with crash := setT c 11 } : Dsk) = d1 at *
  generalize createD d1 [110] = r2 at *
  obtain ⟨d2, e2⟩ := r2
  go_wp2_with fail
  refine HC.out.mono ?_
  rintro e w4 ⟨rfl, h4⟩
  have H4 := Lib.hid h4
  clear h4 HC H3
  have HC := Lib.hid (append_at H4.out (by omega) (Keeps.refl _) [110] (by decide) (H4.out.arg (Keeps.refl _) HR1.out) (by omega))
  generalize appendD d2 [110] new = r3 at *
  obtain ⟨d3, e3⟩ := r3
  go_wp2_with fail
  refine HC.out.mono ?_
  rintro e w5 ⟨rfl, h5⟩
  have H5 := Lib.hid h5
  clear h5 HC H4
  have HC := Lib.hid (sync_at H5.out (by omega) [110] (by decide))
  generalize syncD d3 [110] = r4 at *
  obtain ⟨d4, e4⟩ := r4
  go_wp2_with fail
  refine HC.out.mono ?_
  rintro e w6 ⟨rfl, h6⟩
  have H6 := Lib.hid h6
  clear h6 HC H5
  have HC := Lib.hid (rename_at H6.out (by omega) [110] [115] (by decide) (by decide))
  generalize renameD d4 [110] [115] = r5 at *
  obtain ⟨d5, e5⟩ := r5
  go_wp2_with fail
  refine HC.out.mono ?_
  rintro e w7 ⟨rfl, h7⟩
  have H7 := Lib.hid h7
  clear h7 HC H6
  have HC := Lib.hid (syncDir_at H7.out (by omega))
  generalize syncDirD d5 = r6 at *
  obtain ⟨d6, e6⟩ := r6
  go_wp2_with fail
  refine HC.out.mono ?_
  rintro e w8 ⟨rfl, h8⟩
  have H8 := Lib.hid h8
  clear h8 HC H7
  have HDN := Lib.hid (down_at H8.out)
  rcases HSC.out with ⟨n, k, hr⟩ | ⟨he, ho, hb⟩
  · simp only [Prod.mk.injEq] at hr
    obtain ⟨rfl, rfl⟩ := hr
    have ho : (Vd.w6 old new false n k).off = false := rfl
    rw [ho] at HDN
    have HCR := Lib.hid (crash_at H8.out 0)
    obtain ⟨n', k', hl⟩ := sw_last old new n k
    have HL := Lib.hid hl
    clear ho HSC hl
    generalize ({ Vd.w6 old new false n k with crash := setT 0 11 } : Dsk) = d7 at *
    generalize Vd.w6 old new false n k = d6 at *
    go_wp2_with fail
    refine HDN.out.mono ?_
    rintro e w8' ⟨rfl, rfl⟩
    go_wp2_with fail
    refine HDN.out.mono ?_
    rintro e w8' ⟨rfl, rfl⟩
    go_wp2_with fail
    refine HCR.out.mono ?_
    rintro e w9 ⟨rfl, h9⟩
    have H9 := Lib.hid h9
    clear h9 HDN HCR H8
    have HC := Lib.hid (syncDir_at H9.out (by omega))
    generalize syncDirD d7 = r7 at *
    obtain ⟨d8, e8⟩ := r7
    go_wp2_with fail
    refine HC.out.mono ?_
    rintro e w10 ⟨rfl, h10⟩
    have H10 := Lib.hid (show At W w10 g (Vd.w6 old new true n' k') 7 from by rw [← HL.out]; exact h10)
    clear h10 HC H9 HL
    have HBT := Lib.hid (boot_at H10.out (by omega) t HWF.out (H10.out.arg (Keeps.refl _) HR4.out))
    rw [boot_e rfl] at HBT
    go_wp2_with fail
    refine HBT.out.mono ?_
    rintro e w11 ⟨rfl, h11⟩
    have H11 := Lib.hid h11
    clear h11 HBT H10
    have HRD := Lib.hid (read_at H11.out [115] (by decide))
    rw [w6_boot] at HRD
    unfold ReadDid at HRD
    go_wp2_with fail
    refine HRD.out.mono ?_
    rintro e w12 ⟨v, rfl, hr, hk⟩
    have HE := Lib.hid (H11.out.keep.trans hk)
    have hc1 := Frm.str_at' hr
    have hc2 := Frm.str_at' (HR1.out.keeps HE.out)
    have hbe : ((bstr new).toList == (bstr new).toList) = true := by simp
    clear hr hk HRD H11
    go_wp2_with fail
    go_ret
    exact ⟨by simp, HE.out⟩
  · have he : e6 = 11 := he
    have ho : d6.off = true := ho
    have hb : ∀ t ks, textD (bootD d6 t ks).1 [115] = (old, 0) ∨ textD (bootD d6 t ks).1 [115] = (new, 0) := hb
    subst he
    rw [ho] at HDN
    have HO := Lib.hid ho
    have HBO := Lib.hid (hb t ks)
    clear ho hb HSC
    go_wp2_with fail
    refine HDN.out.mono ?_
    rintro e w8' ⟨rfl, rfl⟩
    go_wp2_with fail
    refine HDN.out.mono ?_
    rintro e w8' ⟨rfl, rfl⟩
    have HBT := Lib.hid (boot_at H8.out (by omega) t HWF.out (H8.out.arg (Keeps.refl _) HR4.out))
    rw [boot_e HO.out] at HBT
    clear HDN
    go_wp2_with fail
    refine HBT.out.mono ?_
    rintro e w11 ⟨rfl, h11⟩
    have H11 := Lib.hid h11
    clear h11 HBT H8
    have HRD := Lib.hid (read_at H11.out [115] (by decide))
    unfold ReadDid at HRD
    rcases HBO.out with hbo | hbo
    · rw [hbo] at HRD
      clear hbo HBO
      go_wp2_with fail
      refine HRD.out.mono ?_
      rintro e w12 ⟨v, rfl, hr, hk⟩
      have HE := Lib.hid (H11.out.keep.trans hk)
      have hc1 := Frm.str_at' hr
      have hc2 := Frm.str_at' (HR1.out.keeps HE.out)
      have hc3 := Frm.str_at' (HR0.out.keeps HE.out)
      have hbe : ((bstr old).toList == (bstr old).toList) = true := by simp
      clear hr hk HRD H11
      cases hon : ((bstr old).toList == (bstr new).toList) with
      | true =>
        go_wp2_with fail
        go_ret
        exact ⟨by simp, HE.out⟩
      | false =>
        go_wp2_with fail
        go_ret
        exact ⟨by simp, HE.out⟩
    · rw [hbo] at HRD
      clear hbo HBO
      go_wp2_with fail
      refine HRD.out.mono ?_
      rintro e w12 ⟨v, rfl, hr, hk⟩
      have HE := Lib.hid (H11.out.keep.trans hk)
      have hc1 := Frm.str_at' hr
      have hc2 := Frm.str_at' (HR1.out.keeps HE.out)
      have hbe : ((bstr new).toList == (bstr new).toList) = true := by simp
      clear hr hk HRD H11
      go_wp2_with fail
      go_ret
      exact ⟨by simp, HE.out⟩
end Vd
end Go.Proofs.Ytohchhgheeolpaa

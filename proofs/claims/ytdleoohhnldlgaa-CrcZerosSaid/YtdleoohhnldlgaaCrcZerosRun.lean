/- crc.Zeros. -/
import Derived.Test.YtdleoohhnldlgaaCrcZeros
import Derived.Laws.Bits128
namespace Go.Proofs.Ytdleoohhnldlgaa
open Go.RowKit
namespace Crc

theorem i64_and1 (n : Int) : bits .and .i64 n 1 = n % 2 := by
  have h1 : (BitVec.ofInt 64 1).toNat = 2 ^ 1 - 1 := by decide
  have key : (BitVec.ofInt 64 n &&& BitVec.ofInt 64 1).toNat = (n % ((2 ^ 64 : Nat) : Int)).toNat % 2 ^ 1 := by
    rw [BitVec.toNat_and, BitVec.toNat_ofInt, h1, Nat.and_two_pow_sub_one_eq_mod]
  show IntKind.i64.wrap ((BitVec.ofInt 64 n &&& BitVec.ofInt 64 1).toNat : Nat) = n % 2
  rw [key, IntKind.wrap_i64]
  omega
/-- the matrix of k bytes 00 -/
def pw (k : Nat) (i : Nat) : Nat := sts (8 * k) (2 ^ i)
theorem pow_lt {i : Nat} (h : i < 32) : (2 : Nat) ^ i < 4294967296 := Nat.lt_of_le_of_lt (Nat.pow_le_pow_right (by omega) (show i ≤ 31 from by omega)) (by omega)
theorem pw_lt (k : Nat) : ∀ i, i < 32 → pw k i < 4294967296 := fun i h => sts_lt _ (pow_lt h)
theorem matA_congr {M N : Nat → Nat} (h : ∀ i, i < 32 → M i = N i) : matA M = matA N := by
  refine matA_of (matA_size M) (fun j hj => ?_)
  rw [matA_at M hj, h j hj]
theorem apply_k (k c : Nat) (hc : c < 4294967296) (w : World) :
    Calls Try.prog 41 #[.agg (matA (pw k)), .int .u32 (c : Int)] w fun e w' => e = .returned (.int .u32 ((sts (8 * k) c : Nat) : Int)) ∧ Keeps w w' := by
  have := apply_any (pw k) (pw_lt k) c hc w
  rwa [app_sts (M := pw k) (n := 8 * k) (fun i _ => rfl) hc] at this
theorem twice_k (k : Nat) (w : World) :
    Calls Try.prog 42 #[.agg (matA (pw k))] w fun e w' => e = .returned (.agg (matA (pw (2 * k)))) ∧ Keeps w w' := by
  have := twice_any (pw k) (pw_lt k) w
  rwa [matA_congr (M := fun i => appN (pw k) (pw k i) 32) (N := pw (2 * k)) (fun i hi => by
    show appN (pw k) (pw k i) 32 = _
    rw [app_sts (M := pw k) (n := 8 * k) (fun i _ => rfl) (pw_lt k i hi)]
    show sts (8 * k) (sts (8 * k) (2 ^ i)) = sts (8 * (2 * k)) (2 ^ i)
    rw [← sts_add]; congr 1; omega)] at this
theorem step_k (w : World) : Calls Try.prog 40 #[] w fun e w' => e = .returned (.agg (matA (pw 1))) ∧ Keeps w w' := step_any w
theorem setCells_all {b : Nat} {t : TypeId} : ∀ (vs : List Value) (o : Nat) (w : World) (cs : Array Value), Blk w b t cs → ∃ ds, Blk (w.setCells b o vs) b t ds ∧ ds.size = cs.size ∧ ∀ j, ds[j]? = if o ≤ j ∧ j < o + vs.length ∧ j < cs.size then vs[j - o]? else cs[j]?
  | [], o, w, cs, h => ⟨cs, h, rfl, fun j => by rw [if_neg (by simp; omega)]⟩
  | v :: vs, o, w, cs, h => by
    obtain ⟨ds, hB, hs, hj⟩ := setCells_all vs (o + 1) _ _ (h.set_ o v)
    rw [Array.size_setIfInBounds] at hs
    refine ⟨ds, hB, hs, fun j => ?_⟩
    rw [hj, Array.getElem?_setIfInBounds, Array.size_setIfInBounds, List.length_cons]
    by_cases h1 : j < o
    · rw [if_neg (by omega), if_neg (by omega), if_neg (by omega)]
    · by_cases h2 : o = j
      · subst h2
        rw [if_neg (by omega), if_pos rfl]
        by_cases h3 : o < cs.size
        · rw [if_pos h3, if_pos (by omega)]; simp
        · rw [if_neg h3, if_neg (by omega), Array.getElem?_eq_none (by omega)]
      · by_cases h3 : j < o + 1 + vs.length ∧ j < cs.size
        · rw [if_pos (by omega), if_pos (by omega)]
          rw [show j - o = (j - (o + 1)) + 1 from by omega, List.getElem?_cons_succ]
        · rw [if_neg (by omega), if_neg (by omega), if_neg (by omega)]
theorem setCells_new {b : Nat} {t : TypeId} {cs ds : Array Value} {w : World} (h : Blk w b t cs) (hs : cs.size = ds.size) : Blk (w.setCells b 0 ds.toList) b t ds := by
  obtain ⟨d, hB, hs', hj⟩ := setCells_all ds.toList 0 w cs h
  have : d = ds := by
    apply Array.ext_getElem?
    intro j
    rw [hj, Nat.sub_zero, Array.length_toList]
    by_cases hl : j < ds.size
    · rw [if_pos (by omega)]; simp
    · rw [if_neg (by omega), Array.getElem?_eq_none (by omega), Array.getElem?_eq_none (by omega)]
  rwa [this] at hB

theorem _root_.Go.Proofs.Ytdleoohhnldlgaa.Blk.range {w : World} {b : Nat} {t : TypeId} {cs : Array Value} (h : Blk w b t cs) : w.rangeAt b 0 cs.toList := fun j v hv => by
  rw [h.cell, Nat.zero_add]
  simpa using hv
theorem _root_.Go.Proofs.Ytdleoohhnldlgaa.Blk.there {w : World} {b : Nat} {t : TypeId} {cs ds : Array Value} (h : Blk w b t cs) (hs : ds.size = cs.size) : w.there b 0 ds.size := fun j hj => ⟨by rw [h.cell, Nat.zero_add, Array.getElem?_eq_getElem (by omega)]; rfl, h.frozen _⟩

set_option maxRecDepth 100000 in
set_option maxHeartbeats 2000000 in
theorem zeros_any (s : Nat) (hs : s < 4294967296) (n : Int) (hn : n ≤ 9223372036854775807) (w : World) :
    Calls Try.prog 33 #[.int .u32 (s : Int), .int .i64 n] w fun e w' => e = .returned (.int .u32 ((zer s n.toNat : Nat) : Int)) ∧ Keeps w w' := by
  have H0 := Lib.hid (not_u32 hs)
  have HZ : Hid (∀ c, c = sts (8 * n.toNat) (4294967295 - s) → bits BinOp.xor IntKind.u32 IntKind.u32.max (c : Int) = ((zer s n.toNat : Nat) : Int)) := Lib.hid (fun c hc => by
    rw [not_u32 (by rw [hc]; exact sts_lt _ (by omega)), hc]
    rfl)
  go_enter Try.func33, Try.ntmps33
  go_wp2_with fail
  refine (step_k _).mono ?_
  rintro e w1 ⟨rfl, hk1⟩
  go_wp2_with (refine wpList_store_mid rfl 59 _ _ rfl w1.heap.size 0 (matA (pw 1)) rfl rfl (Blk.there (Blk.new _ _ _ rfl) (matA_size _)) (by rw [i59, matA_size]) (matA_one _) ?_; simp only [Act.put])
  generalize hW : World.setCells _ _ _ _ = w2
  have hQ2 : Blk w2 w1.heap.size 59 (matA (pw 1)) := by
    rw [← hW]
    exact setCells_new (Blk.new _ _ _ rfl) (matA_size _).symm
  have hK2 : Keeps w w2 := by
    rw [← hW]
    exact setCells_keeps hk1.size _ _ _ (hk1.alloc _)
  have hQw : w.heap.size ≤ w1.heap.size := hk1.size
  clear hW hk1
  generalize w1.heap.size = Q at *
  go_loopw [1, 5] (fun nv cv wr => ∃ (m : Int) (k c : Nat), m ≤ 9223372036854775807 ∧ nv = .int .i64 m ∧ cv = .int .u32 (c : Int) ∧ c < 4294967296 ∧ Hid (sts (8 * n.toNat) (4294967295 - s) = sts (8 * k * m.toNat) c) ∧ Blk wr Q 59 (matA (pw k)) ∧ Keeps w wr) (fun nv _ _ => (intOf nv).toNat)
  case atStart => exact ⟨n, 1, 4294967295 - s, hn, rfl, congrArg (Value.int .u32) H0.out, by omega, Lib.hid rfl, hQ2, hK2⟩
  case round =>
    obtain ⟨m, k, c, hm, rfl, rfl, hc, HE, hB, hK⟩ := hrel
    clear hQ2 hK2
    by_cases hp : 0 < m
    · obtain ⟨m, rfl⟩ : ∃ j : Nat, m = (j : Int) := ⟨m.toNat, by omega⟩
      have hsz := matA_size (pw k)
      have hd1 := matA_one (pw (2 * k))
      have hd2 := matA_size (pw (2 * k))
      have CA := Lib.hid (fun w => apply_k k c hc w)
      have CT := Lib.hid (fun w => twice_k k w)
      have HC1 := sts_lt (8 * k) hc
      have HR := Lib.hid (zer_round k m c)
      generalize hck : sts (8 * k) c = c1 at *
      have HCK := Lib.hid hck
      have HB := Lib.hid hB
      have HK := Lib.hid hK
      have hand : bits BinOp.and IntKind.i64 (m : Int) 1 = ((m % 2 : Nat) : Int) := by rw [i64_and1]; omega
      clear hck hB hK
      generalize hcs2 : matA (pw (2 * k)) = cs2 at *
      generalize hcs1 : matA (pw k) = cs1 at *
      have HCS2 := Lib.hid hcs2
      clear hcs2 hcs1
      by_cases ho : m % 2 = 1
      · have ht : (bits BinOp.and IntKind.i64 (m : Int) 1 == 1) = true := by rw [hand, ho]; rfl
        clear hand
        go_wp2_with (refine wpList_load_mid rfl 59 _ rfl Q 0 rfl cs1.toList _ (HB.out.range) m59 rfl (by rw [i59, Array.length_toList, hsz]) ?_; rw [Array.toArray_toList])
        refine (CA.out _).mono ?_
        rintro e w3 ⟨rfl, hk3⟩
        have HK := Lib.hid (HK.out.trans hk3)
        have HB := Lib.hid (HB.out.keeps hk3)
        clear hk3
        go_wp2_with (refine wpList_load_mid rfl 59 _ rfl Q 0 rfl cs1.toList _ (HB.out.range) m59 rfl (by rw [i59, Array.length_toList, hsz]) ?_; rw [Array.toArray_toList])
        refine (CT.out _).mono ?_
        rintro e w4 ⟨rfl, hk4⟩
        have HTH : Hid (w4.there Q 0 cs2.size) := Lib.hid (Blk.there (HB.out.keeps hk4) (by rw [hd2, hsz]))
        have HK := Lib.hid (HK.out.trans hk4)
        have HB := Lib.hid (HB.out.keeps hk4)
        clear hk4
        go_wp2_with (refine wpList_store_mid rfl 59 _ _ rfl Q 0 cs2 rfl rfl HTH.out (by rw [i59, hd2]) hd1 ?_; simp only [Act.put])
        have HB2 := Lib.hid (setCells_new HB.out (show cs1.size = cs2.size by rw [hsz, hd2]))
        have HK2 := Lib.hid (setCells_keeps hQw cs2.toList 0 _ HK.out)
        generalize World.setCells _ Q 0 cs2.toList = w5 at *
        go_wp2_with fail
        go_roundw
        case rel => exact ⟨((m / 2 : Nat) : Int), 2 * k, c1, by omega, by rw [Int.natCast_ediv]; rfl, rfl, HC1, Lib.hid (by rw [HE.out, Int.toNat_natCast, Int.toNat_natCast, HR.out, if_pos ho]), by rw [HCS2.out]; exact HB2.out, HK2.out⟩
        case measure =>
          simp only [intOf]
          omega
      · have ht : (bits BinOp.and IntKind.i64 (m : Int) 1 == 1) = false := by rw [hand, show m % 2 = 0 from by omega]; rfl
        clear hand
        go_wp2_with (refine wpList_load_mid rfl 59 _ rfl Q 0 rfl cs1.toList _ (HB.out.range) m59 rfl (by rw [i59, Array.length_toList, hsz]) ?_; rw [Array.toArray_toList])
        refine (CT.out _).mono ?_
        rintro e w4 ⟨rfl, hk4⟩
        have HTH : Hid (w4.there Q 0 cs2.size) := Lib.hid (Blk.there (HB.out.keeps hk4) (by rw [hd2, hsz]))
        have HK := Lib.hid (HK.out.trans hk4)
        have HB := Lib.hid (HB.out.keeps hk4)
        clear hk4
        go_wp2_with (refine wpList_store_mid rfl 59 _ _ rfl Q 0 cs2 rfl rfl HTH.out (by rw [i59, hd2]) hd1 ?_; simp only [Act.put])
        have HB2 := Lib.hid (setCells_new HB.out (show cs1.size = cs2.size by rw [hsz, hd2]))
        have HK2 := Lib.hid (setCells_keeps hQw cs2.toList 0 _ HK.out)
        generalize World.setCells _ Q 0 cs2.toList = w5 at *
        go_wp2_with fail
        go_roundw
        case rel => exact ⟨((m / 2 : Nat) : Int), 2 * k, c, by omega, by rw [Int.natCast_ediv]; rfl, rfl, hc, Lib.hid (by rw [HE.out, Int.toNat_natCast, Int.toNat_natCast, HR.out, if_neg ho]), by rw [HCS2.out]; exact HB2.out, HK2.out⟩
        case measure =>
          simp only [intOf]
          omega
    · have hx := HZ.out c (by rw [HE.out, show m.toNat = 0 from by omega, Nat.mul_zero]; rfl)
      go_wp2_with fail
      go_ret
      exact ⟨rfl, hK⟩
end Crc
end Go.Proofs.Ytdleoohhnldlgaa
